/- A region that draws its order, of known values, where one operation alone turns the world: R false ahead of it, R true behind it. Over no program. -/
import Derived.Test.YtnlaepogkepnhaaNote
namespace Go.Proofs.Ytnlaepogkepnhaa
set_option linter.unusedVariables false
open Go.RowKit

section
variable {P : Program} {l : List Oper} {md : Region.Mode}

structure MNotes (l : List Oper) (u : Nat → Value) (R : Bool → World → Prop) (m : Nat) (a0 : Act) (L : Array Bool) (a : Act) (w : World) : Prop where
  cls : R (L.getD m false) w
  defers : a.defers = a0.defers
  size : a.tmps.size = a0.tmps.size
  rest : ∀ k, (∀ i, i < l.length → dstOf l i ≠ k) → a.tmps[k]? = a0.tmps[k]?
  note : ∀ i, i < l.length → L.getD i false = true → a.tmps[dstOf l i]? = some (u i)

theorem MNotes.step {u : Nat → Value} {R : Bool → World → Prop} {m : Nat} {a0 : Act} {L : Array Bool} {a : Act} {w w' : World} {i : Nat}
    (h : MNotes l u R m a0 L a w) (hd : dstB l l.length a0.tmps.size = true) (hi : i < l.length) (hL : i < L.size) (hR : R (L.getD m false || decide (i = m)) w') :
    MNotes l u R m a0 (L.setIfInBounds i true) (a.put (some (dstOf l i)) (u i)) w' := by
  have hdi := dstB_spec hd hi
  have hlt : dstOf l i < a.tmps.size := by rw [h.size]; exact hdi.2.1
  refine ⟨?_, h.defers, ?_, ?_, ?_⟩
  · by_cases e : i = m
    · subst e
      have : (L.setIfInBounds i true).getD i false = true := by rw [Array.getD_eq_getD_getElem?, Array.getElem?_setIfInBounds_self_of_lt hL]; rfl
      rw [this]; simpa using hR
    · rw [getD_set_ne false e]; simpa [e] using hR
  · simp only [Act.put, Array.size_setIfInBounds]; exact h.size
  · intro k hk
    rw [put_at (hk i hi)]; exact h.rest k hk
  · intro j hj hl
    by_cases hji : j = i
    · subst hji; exact put_self hlt
    · rw [put_at (hdi.2.2 j hj (Ne.symm hji))]
      rw [getD_set_ne false (Ne.symm hji)] at hl
      exact h.note j hj hl

theorem mnotes_any {Q : Exit → Act → World → Prop} {u : Nat → Value} {R : Bool → World → Prop} {m : Nat} {a0 : Act} (hd : dstB l l.length a0.tmps.size = true) (hf : headFwd md l = true)
    (hR : ∀ i o, l[i]? = some o → ∀ b a w, R b w → (i = m → b = false) → (∀ k, (∀ j, j < l.length → dstOf l j ≠ k) → a.tmps[k]? = a0.tmps[k]?) →
      (∀ e ∈ o.after, Region.binds md e = true → a.tmps[dstOf l e.on]? = some (u e.on)) → Region.wanted o (yielded l.toArray a.tmps) = true ∧ Oper.doesR P o a w fun v w' => v = u i ∧ R (b || decide (i = m)) w')
    (hT : ∀ (L : Array Bool) a w, MNotes l u R m a0 L a w → L.size = l.length → (∀ i, i < l.length → L[i]? = some true) → wpAny P md l.toArray Q 0 L a w) :
    ∀ (fuel : Nat) (L : Array Bool) (a : Act) (w : World), L.size = l.length → MNotes l u R m a0 L a w → (L.toList.filter (!·)).length = fuel → wpAny P md l.toArray Q fuel L a w := by
  intro fuel
  induction fuel with
  | zero =>
    intro L a w hz H hcnt
    refine hT L a w H hz (fun i hi => ?_)
    have := count_zero hcnt i (by simp; omega)
    rw [Array.getElem?_toList] at this
    exact this
  | succ fuel ih =>
    intro L a w hz H hcnt
    obtain ⟨q, hq⟩ := count_pos hcnt
    have hqn : q < l.length := by have := (List.getElem?_eq_some_iff.1 hq).1; simp at this; omega
    have hq' : L[q]? = some false := by rw [Array.getElem?_toList] at hq; exact hq
    refine ⟨fun h0 => ?_, fun i hi => ?_⟩
    · obtain ⟨j, hj⟩ := exists_ready2 (n := l.length) (Nat.le_refl _) (by rw [List.take_length]; exact hf) hz q hqn hq'
      rw [h0] at hj; cases hj
    · obtain ⟨h1, o, ho, hall⟩ := mem_ready.1 hi
      have hil : i < l.length := by have := (Array.getElem?_eq_some_iff.1 ho).1; simpa using this
      have hol : l[i]? = some o := by simpa using ho
      have hdi := dstB_spec hd hil
      have hdst : o.dst = some (dstOf l i) := by
        obtain ⟨o', h2, h3⟩ := hdi.1
        rw [hol] at h2; cases h2; exact h3
      have hLi : L[i]? = some false := by
        have hz2 : i < L.size := by omega
        rw [Array.getElem?_eq_getElem hz2]
        simp [Array.getD_eq_getD_getElem?, Array.getElem?_eq_getElem hz2] at h1
        rw [h1]
      have hR' := hR i o hol (L.getD m false) a w H.cls (fun e => by subst e; simp [Array.getD_eq_getD_getElem?, hLi]) H.rest (fun e he hb => by
        have hlt := (headFwd_spec hf hol).1 e he hb
        exact H.note e.on (by omega) (hall e he hb))
      unfold wpOp
      rw [ho]
      dsimp only
      rw [if_pos hR'.1]
      refine .inl (wp_of_does hR'.2 fun v w' hv => ?_)
      obtain ⟨rfl, hv2⟩ := hv
      rw [hdst]
      refine ih _ _ w' (by simpa using hz) (H.step hd hil (by omega) hv2) ?_
      have := count_set L.toList i (by rw [Array.getElem?_toList]; exact hLi)
      rw [Array.toList_setIfInBounds]; omega

/-- What one operation, run behind pre, must do: its value is u's, and R goes on (the mover: from false to true). -/
def StepM (P : Program) (u : Nat → Value) (R : Bool → World → Prop) (m : Nat) (a0 : Act) (pre : List Oper) (o : Oper) : Prop :=
  ∀ (b : Bool) (x : World), R b x → (pre.length = m → b = false) → wpList P #[] (postN (fun v w' => v = u pre.length ∧ R (b || decide (pre.length = m)) w') (o.dst.getD 0) a0.defers) [o] (putsFrom u 0 pre a0) x
def StepsM (P : Program) (u : Nat → Value) (R : Bool → World → Prop) (m : Nat) (a0 : Act) : List Oper → List Oper → Prop
  | _, [] => True
  | pre, o :: os => StepM P u R m a0 pre o ∧ StepsM P u R m a0 (pre ++ [o]) os
theorem StepsM.at {u : Nat → Value} {R : Bool → World → Prop} {m : Nat} {a0 : Act} : ∀ {os pre : List Oper} {i : Nat} {o : Oper}, StepsM P u R m a0 pre os → os[i]? = some o → StepM P u R m a0 (pre ++ os.take i) o
  | [], _, _, _, _, h => by simp at h
  | p :: os, pre, 0, o, hs, h => by
    simp at h; subst h
    simpa using hs.1
  | p :: os, pre, i + 1, o, hs, h => by
    have := StepsM.at hs.2 (i := i) (o := o) (by simpa using h)
    simpa using this

def moverB (md : Region.Mode) (l : List Oper) (sz m : Nat) : Bool := decide (m < l.length) && dstB l l.length sz && headFwd md l && indepB md l l.length

/-- **A region that draws its order and whose operation m alone turns the world.** -/
theorem wp_region_mover {id : Nat} {Q : Exit → Act → World → Prop} {a0 : Act} {w0 : World} (u : Nat → Value) (R : Bool → World → Prop) (m : Nat) {sz : Nat} (hsz : a0.tmps.size = sz) (hm : P.follows .mixedOrders = true) (hB : moverB .any l sz m = true)
    (h0 : R false { w0 with drawn := w0.drawn + 1 }) (hs : StepsM P u R m a0 [] l) (hK : ∀ x, R true x → Q .normal (putsFrom u 0 l a0) x) :
    (Code.region id l.toArray true).wp P Q a0 w0 := by
  subst hsz
  simp only [moverB, Bool.and_eq_true, decide_eq_true_eq] at hB
  obtain ⟨⟨⟨hml, hd⟩, hf⟩, hin⟩ := hB
  refine wp_region_any hm ?_
  have H0 : MNotes l u R m a0 (Array.replicate l.toArray.size false) a0 { w0 with drawn := w0.drawn + 1 } :=
    ⟨by rw [getD_replicate_false]; exact h0, rfl, rfl, fun _ _ => rfl, fun i _ hl => (by rw [getD_replicate_false] at hl; cases hl)⟩
  have := mnotes_any (P := P) (md := .any) (l := l) (Q := Q) (u := u) (R := R) (m := m) (a0 := a0) hd hf
    (fun i o ho b a w hRb him hrest hdeps => by
      have hi : i < l.length := (List.getElem?_eq_some_iff.1 ho).1
      obtain ⟨hg, hsel, hop⟩ := indepB_spec hin hi ho
      have hwt : Region.wanted o (yielded l.toArray a.tmps) = true := by unfold Region.wanted; rw [hg]
      refine ⟨hwt, ?_⟩
      have hst := hs.at ho
      have hdi := dstB_spec hd hi
      have hdst : o.dst = some (dstOf l i) := by
        obtain ⟨o', h2, h3⟩ := hdi.1
        rw [ho] at h2; cases h2; exact h3
      obtain ⟨p1, p2, p3, p4⟩ := putsFrom_spec (l := l) (n := l.length) u hd i (Nat.le_of_lt hi)
      have hlen : (l.take i).length = i := by simp; omega
      unfold StepM at hst
      rw [List.nil_append, hlen] at hst
      have hwp := hst b w hRb him
      rw [hdst] at hwp
      have hwp2 := wp_of_list hg hwp
      rw [← p2] at hwp2
      have hdo := doesR_of_wp (R := fun v w' => v = u i ∧ R (b || decide (i = m)) w') hdst (by rw [p1]; exact hdi.2.1) hwp2
      have hcongr : execOp a.eval o = execOp (putsFrom u 0 (l.take i) a0).eval o := by
        refine execOp_congr o hsel fun x hx => ?_
        cases x with
        | tmp t =>
          show a.tmps.getD t undef = (putsFrom _ 0 (l.take i) a0).tmps.getD t undef
          rw [Array.getD_eq_getD_getElem?, Array.getD_eq_getD_getElem?]
          by_cases hj : ∃ j, j < l.length ∧ dstOf l j = t
          · obtain ⟨j, hj, rfl⟩ := hj
            obtain ⟨e, he, hbd, rfl⟩ := hop _ hx j hj rfl
            have hlt := (headFwd_spec hf ho).1 e he hbd
            rw [p3 e.on hlt, hdeps e he hbd]
          · have hno : ∀ j, j < l.length → dstOf l j ≠ t := fun j hj' e => hj ⟨j, hj', e⟩
            rw [p4 t hno, hrest t hno]
        | const v => rfl
        | global g => rfl
        | func f => rfl
      unfold Oper.doesR at hdo ⊢
      rw [hcongr]
      exact hdo)
    (fun L a w H hz h1 => by
      have eL : L = (List.replicate l.length true).toArray := by
        apply Array.ext_getElem?
        intro i
        rcases Nat.lt_or_ge i l.length with hi | hi
        · rw [h1 i hi]; simp [hi]
        · rw [Array.getElem?_eq_none (by omega)]; symm; simp; omega
      have lis : ∀ i, i < l.length → L.getD i false = true := fun i hi => by rw [Array.getD_eq_getD_getElem?, h1 i hi]; rfl
      have ea : a = putsFrom u 0 l a0 := by
        obtain ⟨p1, p2, p3, p4⟩ := putsFrom_spec (l := l) (n := l.length) u hd l.length (Nat.le_refl _)
        rw [List.take_length] at p1 p2 p3 p4
        refine act_ext (by rw [p2]; exact H.defers) (by rw [p1]; exact H.size) fun k => ?_
        by_cases hj : ∃ j, j < l.length ∧ dstOf l j = k
        · obtain ⟨j, hj, rfl⟩ := hj
          rw [p3 j hj, H.note j hj (lis j hj)]
        · have hno : ∀ j, j < l.length → dstOf l j ≠ k := fun j hj' e => hj ⟨j, hj', e⟩
          rw [p4 k hno, H.rest k hno]
      have hc := H.cls
      rw [lis m hml] at hc
      have hq := hK w hc
      rw [← ea] at hq
      refine ⟨?_, hq⟩
      rw [List.eq_nil_iff_forall_not_mem]
      intro i hi
      obtain ⟨h2, o, ho, _⟩ := mem_ready.1 hi
      have hil : i < l.length := by have := (Array.getElem?_eq_some_iff.1 ho).1; simpa using this
      rw [Array.getD_eq_getD_getElem?, h1 i hil] at h2
      simp at h2)
    l.length (Array.replicate l.toArray.size false) a0 { w0 with drawn := w0.drawn + 1 } (by simp) H0 (by simp)
  simpa using this
end
end Go.Proofs.Ytnlaepogkepnhaa
