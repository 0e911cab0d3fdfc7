/- Several texts as one: NoteL NB. -/
import Derived.Test.YtekmadgacepdfaaGreatQ0
import Derived.Test.YtekmadgacepdfaaGreatNote
import Derived.Test.YtekmadgacepdfaaGreatNA
import Derived.Test.YtekmadgacepdfaaGreatBAuto
import Derived.Test.YtekmadgacepdfaaGreatMR
import Derived.Test.YtekmadgacepdfaaGreatMB
import Derived.Deep.CutBlock
namespace Go.Proofs.YtekmadgacepdfaaGreat
set_option linter.unusedVariables false
set_option linter.unusedSimpArgs false
open Go.RowKit

section
variable {P : Program} {l : List Oper} {n : Nat} {md : Region.Mode}

def lateB (md : Region.Mode) (ops : Array Oper) (n e0 : Nat) : Bool := Region.chainB md ops n && decide (n < ops.size) && (List.range n).all fun u => decide (u = e0) || (List.range (n + 1)).any fun j => decide (u < j) && decide (j ≠ e0) && Region.waitsFor md ops j u
theorem lateB_spec {L : Array Bool} {e0 i : Nat} (h : lateB md l.toArray n e0 = true) (inv : HeadInv md l.toArray n L) (hi : i ∈ Region.ready md l.toArray L) (hge : n ≤ i) :
  i = n ∧ ∀ u, u < n → u ≠ e0 → L.getD u false = true := by
 simp only [lateB, Bool.and_eq_true, decide_eq_true_eq] at h
 obtain ⟨⟨hc, hns⟩, hw⟩ := h
 obtain ⟨_, o, ho, hall⟩ := mem_ready.1 hi
 have hlt : i < l.toArray.size := (Array.getElem?_eq_some_iff.1 ho).1
 have e : i = n := by
  rcases Nat.decEq i n with hne | he
  ·have h1 := List.all_eq_true.1 hc i (List.mem_range.2 hlt)
   simp only [Bool.or_eq_true, decide_eq_true_eq] at h1
   rcases h1 with h1 | h1
   ·omega
   ·obtain ⟨o', ho', ed, he, hb, hon⟩ := Region.waitsFor_spec h1
    rw [ho] at ho'; cases ho'
    have h2 := hall ed he hb
    rw [hon, getD_both (inv.tail (i - 1) (by omega) (by omega))] at h2
    cases h2
  ·exact he
 subst e
 refine ⟨rfl, ?_⟩
 have key : ∀ d u, i - u = d → u < i → u ≠ e0 → L.getD u false = true := by
  intro d
  induction d using Nat.strongRecOn with
  | _ d ih =>
   intro u hd hu hne
   have h1 := List.all_eq_true.1 hw u (List.mem_range.2 hu)
   simp only [Bool.or_eq_true, decide_eq_true_eq, List.any_eq_true, Bool.and_eq_true, List.mem_range] at h1
   rcases h1 with h1 | ⟨j, hj, ⟨hlj, hje⟩, hwj⟩
   ·exact absurd h1 hne
   ·obtain ⟨oj, hoj, ed, he, hb, hon⟩ := Region.waitsFor_spec hwj
    by_cases hji : j = i
    ·subst hji
     rw [ho] at hoj; cases hoj
     have h2 := hall ed he hb
     rwa [hon] at h2
    ·have hlj2 := ih (i - j) (by omega) j rfl (by omega) hje
     have h2 := inv.closed j oj hoj hlj2 ed he hb
     rwa [hon] at h2
 exact fun u hu hne => key _ u rfl hu hne

def orderB (md : Region.Mode) (ops : Array Oper) : List Nat → Array Bool → Bool
 | [], L => (Region.ready md ops L).isEmpty
 | i :: is, L => decide (Region.ready md ops L = [i]) && orderB md ops is (L.setIfInBounds i true)
theorem wpAny_of_order {ops : Array Oper} {Q : Exit → Act → World → Prop} : ∀ (is : List Nat) (os : List Oper) (L : Array Bool) (a : Act) (w : World), is.length = os.length → (∀ j i o : Nat, True) → (∀ (j : Nat) (i : Nat) (o : Oper), is[j]? = some i → os[j]? = some o → ops[i]? = some o) →
  orderB md ops is L = true → wpList P ops Q os a w → wpAny P md ops Q is.length L a w
 | [], [], L, a, w, _, _, _, hB, h => ⟨by simpa [orderB] using hB, h⟩
 | i :: is, o :: os, L, a, w, hl, ht, hm, hB, h => by
  have h0 : ops[i]? = some o := hm 0 i o rfl rfl
  simp only [orderB, Bool.and_eq_true, decide_eq_true_eq] at hB
  refine ⟨fun h1 => (by rw [hB.1] at h1; cases h1), fun k hk => ?_⟩
  rw [hB.1] at hk
  have hki : k = i := by simpa using hk
  subst hki
  have hw : wpOp P ops Q k (wpList P ops Q os) a w := by unfold wpOp; simp only [h0]; exact h
  exact wpOp_mono (fun a' w' h' => wpAny_of_order is os _ a' w' (by simpa using hl) ht (fun j i' o' h1 h2 => hm (j + 1) i' o' (by simpa using h1) (by simpa using h2)) hB.2 h') hw
 | [], _ :: _, _, _, _, hl, _, _, _, _ => by cases hl
 | _ :: _, [], _, _, _, hl, _, _, _, _ => by cases hl

theorem notes_late {Q : Exit → Act → World → Prop} {Φ : Nat → Value → World → Prop} {fresh : Nat → Bool} {a0 : Act} {w0 : World} {g : Nat} (hn : n ≤ l.length)
  (e0 : Nat) (he0 : e0 < n) (hw : lateB md l.toArray n e0 = true) (hd : dstB l n a0.tmps.size = true) (hf : headFwd md (l.take n) = true)
  (hS : ∀ i, i < n → ∀ v w w', Φ i v w → Below w.heap.size w w' → Φ i v w')
  (hR : ∀ i o, l[i]? = some o → i < n → ∀ a w, Below w0.heap.size w0 w → (∀ k, (∀ j, j < n → dstOf l j ≠ k) → a.tmps[k]? = a0.tmps[k]?) →
   (∀ e ∈ o.after, Region.binds md e = true → ∃ v, a.tmps[dstOf l e.on]? = some v ∧ Φ e.on v w) →
   (Region.wanted o (yielded l.toArray a.tmps) = true → Oper.doesR P o a w fun v w' => Below w.heap.size w w' ∧ Φ i v w' ∧ (fresh i = true → ∃ B, blkOf v = some B ∧ w.heap.size ≤ B ∧ B < w'.heap.size)) ∧
   (Region.wanted o (yielded l.toArray a.tmps) = false → Φ i undef w ∧ fresh i = false))
  (hT : ∀ (L : Array Bool) a w, Notes l n Φ fresh a0 w0 L a w → L.size = l.length → (∀ i, i < n → L[i]? = some true) → (∀ i, n ≤ i → i < l.length → L[i]? = some false) → wpAny P md l.toArray Q g L a w)
  (hLate : ∀ (L : Array Bool) a w, Notes l n Φ fresh a0 w0 L a w → a.tmps[dstOf l e0]? = a0.tmps[dstOf l e0]? → L.size = l.length → (∀ i, i < n → i ≠ e0 → L[i]? = some true) → L[e0]? = some false → (∀ i, n ≤ i → i < l.length → L[i]? = some false) → wpOp P l.toArray Q n (wpAny P md l.toArray Q g (L.setIfInBounds n true)) a w) :
  ∀ (fuel : Nat) (L : Array Bool) (a : Act) (w : World), HeadInv md l.toArray n L → Notes l n Φ fresh a0 w0 L a w → (L.getD e0 false = false → a.tmps[dstOf l e0]? = a0.tmps[dstOf l e0]?) → ((L.toList.take n).filter (!·)).length = fuel → wpAny P md l.toArray Q (fuel + g) L a w := by
 intro fuel
 induction fuel with
 | zero =>
  intro L a w inv H HU hcnt
  have hz : L.size = l.length := by have := inv.size; simpa using this
  rw [Nat.zero_add]
  refine hT L a w H hz (fun i hi => ?_) (fun i h1 h2 => ?_)
  ·have := count_zero hcnt i (by simp; omega)
   rw [List.getElem?_take, if_pos hi, Array.getElem?_toList] at this
   exact this
  ·have := inv.tail i h1 (by simpa using h2)
   have hz2 : i < L.size := by omega
   rw [Array.getElem?_eq_getElem hz2]
   simp [Array.getD_eq_getD_getElem?, Array.getElem?_eq_getElem hz2] at this
   rw [this]
 | succ fuel ih =>
  intro L a w inv H HU hcnt
  have hz : L.size = l.length := by have := inv.size; simpa using this
  obtain ⟨u, hu⟩ := count_pos hcnt
  have hun : u < n := by have := (List.getElem?_eq_some_iff.1 hu).1; simp at this; omega
  have hu' : L[u]? = some false := by rw [List.getElem?_take, if_pos hun, Array.getElem?_toList] at hu; exact hu
  have hLu : L.getD u true = false := by simp [Array.getD_eq_getD_getElem?, hu']
  rw [show fuel + 1 + g = (fuel + g) + 1 by omega]
  refine ⟨fun h0 => ?_, fun i hi => ?_⟩
  ·obtain ⟨j, hj⟩ := exists_ready2 hn hf hz u hun hu'
   rw [h0] at hj; cases hj
  ·obtain ⟨h1, o, ho, hall⟩ := mem_ready.1 hi
   have hil : i < l.length := by have := (Array.getElem?_eq_some_iff.1 ho).1; simpa using this
   rcases Nat.lt_or_ge i n with hin | hge
   rotate_left
   ·obtain ⟨e1, e2⟩ := lateB_spec hw inv hi hge
    subst e1
    have hundone : ∀ v, v < i → L[v]? = some false → v = e0 := fun v hv hvf => by
     rcases Nat.decEq v e0 with hne | he
     ·have := e2 v hv hne; rw [Array.getD_eq_getD_getElem?, hvf] at this; cases this
     ·exact he
    obtain rfl := hundone u hun hu'
    have hdone : ∀ v, v < i → v ≠ u → L[v]? = some true := fun v hv hne => by
     have h3 := e2 v hv hne
     have hz2 : v < L.size := by omega
     rw [Array.getElem?_eq_getElem hz2]
     simp [Array.getD_eq_getD_getElem?, Array.getElem?_eq_getElem hz2] at h3
     rw [h3]
    have hf0 : fuel = 0 := by
     have h4 := count_set (L.toList.take i) u hu
     have h5 : (((L.toList.take i).set u true).filter (!·)).length = 0 := by
      rcases Nat.eq_zero_or_pos (((L.toList.take i).set u true).filter (!·)).length with h | h
      ·exact h
      ·obtain ⟨v, hv⟩ := count_pos (xs := (L.toList.take i).set u true) (k := (((L.toList.take i).set u true).filter (!·)).length - 1) (by omega)
       rcases Nat.decEq v u with hne | he
       ·rw [List.getElem?_set_ne (Ne.symm hne)] at hv
        have hvi : v < i := by have := (List.getElem?_eq_some_iff.1 hv).1; simp at this; omega
        rw [List.getElem?_take, if_pos hvi, Array.getElem?_toList, hdone v hvi hne] at hv
        cases hv
       ·subst he
        rw [List.getElem?_set_self (by have := (List.getElem?_eq_some_iff.1 hu).1; exact this)] at hv
        cases hv
     omega
    subst hf0
    rw [Nat.zero_add]
    refine hLate L a w H (HU (by rw [Array.getD_eq_getD_getElem?, hu']; rfl)) hz hdone hu' (fun v h1 h2 => ?_)
    have := inv.tail v h1 (by simpa using h2)
    have hz2 : v < L.size := by omega
    rw [Array.getElem?_eq_getElem hz2]
    simp [Array.getD_eq_getD_getElem?, Array.getElem?_eq_getElem hz2] at this
    rw [this]
   have hol : l[i]? = some o := by simpa using ho
   have hoH : (l.take n)[i]? = some o := by rw [List.getElem?_take, if_pos hin]; exact hol
   have hdi := dstB_spec hd hin
   have hdst : o.dst = some (dstOf l i) := by
    obtain ⟨o', h2, h3⟩ := hdi.1
    rw [hol] at h2; cases h2; exact h3
   have hLi : L[i]? = some false := by
    have hz2 : i < L.size := by omega
    rw [Array.getElem?_eq_getElem hz2]
    simp [Array.getD_eq_getD_getElem?, Array.getElem?_eq_getElem hz2] at h1
    rw [h1]
   have hR' := hR i o hol hin a w H.ext H.rest (fun e he hb => by
    have hlt := (headFwd_spec hf hoH).1 e he hb
    obtain ⟨v, h2, h3, _⟩ := H.note e.on (by omega) (hall e he hb)
    exact ⟨v, h2, h3⟩)
   have next : ∀ v w', Below w.heap.size w w' → Φ i v w' → (fresh i = true → ∃ B, blkOf v = some B ∧ w.heap.size ≤ B ∧ B < w'.heap.size) →
     wpAny P md l.toArray Q (fuel + g) (L.setIfInBounds i true) (a.put o.dst v) w' := by
    intro v w' hb hv hfr
    rw [hdst]
    refine ih _ _ w' (inv.set hi hin) (H.step hd hS hin hb hv hfr) (fun hu0 => ?_) ?_
    ·have hne : i ≠ e0 := fun h => by
      subst h
      have hz3 : i < L.size := by omega
      simp [hz3] at hu0
     rw [put_at (hdi.2.2 e0 he0 hne)]
     refine HU ?_
     rwa [getD_set_ne false hne] at hu0
    have := count_set (L.toList.take n) i (by rw [List.getElem?_take, if_pos hin, Array.getElem?_toList]; exact hLi)
    rw [Array.toList_setIfInBounds, List.take_set]; omega
   unfold wpOp
   rw [ho]
   dsimp only
   cases hwt : Region.wanted o (yielded l.toArray a.tmps)
   ·rw [if_neg (by simp)]
    obtain ⟨h2, h3⟩ := hR'.2 hwt
    exact next undef w (Below.refl _ _) h2 (fun h => by rw [h3] at h; cases h)
   ·rw [if_pos rfl]
    exact .inl (wp_of_does (hR'.1 hwt) fun v w' hv => next v w' hv.1 hv.2.1 hv.2.2)

def putsBut (e0 : Nat) (u : Nat → Value) : Nat → List Oper → Act → Act
 | _, [], a => a
 | k, o :: os, a => putsBut e0 u (k + 1) os (if k = e0 then a else a.put o.dst (u k))
theorem putsBut_snoc (e0 : Nat) (u : Nat → Value) (o : Oper) : ∀ (os : List Oper) (k : Nat) (a : Act), putsBut e0 u k (os ++ [o]) a = (if k + os.length = e0 then putsBut e0 u k os a else (putsBut e0 u k os a).put o.dst (u (k + os.length)))
 | [], _, _ => rfl
 | p :: os, k, a => by
  show putsBut e0 u (k + 1) (os ++ [o]) _ = _
  rw [putsBut_snoc e0 u o os (k + 1)]
  show _ = if k + (os.length + 1) = e0 then putsBut e0 u (k + 1) os _ else (putsBut e0 u (k + 1) os _).put o.dst (u (k + (os.length + 1)))
  rw [show k + 1 + os.length = k + (os.length + 1) by omega]
theorem putsBut_spec {e0 : Nat} (u : Nat → Value) {a0 : Act} (hd : dstB l n a0.tmps.size = true) : ∀ m, m ≤ n → (putsBut e0 u 0 (l.take m) a0).tmps.size = a0.tmps.size ∧ (putsBut e0 u 0 (l.take m) a0).defers = a0.defers ∧
  (∀ j, j < m → j ≠ e0 → (putsBut e0 u 0 (l.take m) a0).tmps[dstOf l j]? = some (u j)) ∧ (∀ k, (∀ j, j < n → j ≠ e0 → dstOf l j ≠ k) → (putsBut e0 u 0 (l.take m) a0).tmps[k]? = a0.tmps[k]?)
 | 0, _ => by simp [putsBut]
 | m + 1, h => by
  obtain ⟨h1, h2, h3, h4⟩ := putsBut_spec (e0 := e0) u hd m (by omega)
  obtain ⟨⟨o, ho, hdo⟩, hlt, hne⟩ := dstB_spec hd (show m < n by omega)
  have hm : m < l.length := (List.getElem?_eq_some_iff.1 ho).1
  have e : l.take (m + 1) = l.take m ++ [o] := by
   rw [List.take_add_one, ho]; rfl
  have hlen : (l.take m).length = m := by simp; omega
  rw [e, putsBut_snoc, hlen, Nat.zero_add, hdo]
  by_cases he : m = e0
  ·rw [if_pos he]
   exact ⟨h1, h2, fun j hj hje => h3 j (by omega) hje, h4⟩
  ·rw [if_neg he]
   refine ⟨by simp only [Act.put, Array.size_setIfInBounds]; exact h1, h2, fun j hj hje => ?_, fun k hk => ?_⟩
   ·by_cases hjm : j = m
    ·subst hjm; exact put_self (by rw [h1]; exact hlt)
    ·rw [put_at (hne j (by omega) (Ne.symm hjm))]; exact h3 j (by omega) hje
   ·rw [put_at (hk m (by omega) he)]; exact h4 k hk

def lateL (len n e0 : Nat) : Array Bool := ((List.range len).map fun i => decide (i ≤ n) && decide (i ≠ e0)).toArray
def noteLateB (md : Region.Mode) (l : List Oper) (n sz e0 : Nat) : Bool :=
 decide (n ≤ l.length) && lateB md l.toArray n e0 && dstB l n sz && headFwd md (l.take n) && indepB md l n && Region.seqB md l.toArray (l.length - n) n ((List.replicate n true ++ List.replicate (l.length - n) false).toArray) &&
 decide (e0 < n) && orderB md l.toArray (e0 :: List.range' (n + 1) (l.length - n - 1)) (lateL l.length n e0)

theorem wp_region_notes_late {l : List Oper} {id : Nat} {Q : Exit → Act → World → Prop} {a0 : Act} {w0 : World} (N : List Note) (e0 : Nat) {sz : Nat} (hsz : a0.tmps.size = sz) (hm : P.follows .mixedOrders = true) (hB : noteLateB .any l N.length sz e0 = true)
  (hs : StepsN P N a0 w0 [] (l.take N.length))
  (hK : ∀ (u : Nat → Value) (x : World), Below w0.heap.size w0 x → (∀ i, i < N.length → (N.getD i (.val undef)).phi w0.heap.size (u i) x) →
   (∀ i j, i < N.length → j < N.length → i ≠ j → (N.getD i (.val undef)).fresh = true → (N.getD j (.val undef)).fresh = true → blkOf (u i) ≠ blkOf (u j)) → wpList P l.toArray Q (l.drop N.length) (putsFrom u 0 (l.take N.length) a0) x)
  (hL : ∀ (u : Nat → Value) (x : World), Below w0.heap.size w0 x → (∀ i, i < N.length → i ≠ e0 → (N.getD i (.val undef)).phi w0.heap.size (u i) x) →
   (∀ i j, i < N.length → j < N.length → i ≠ e0 → j ≠ e0 → i ≠ j → (N.getD i (.val undef)).fresh = true → (N.getD j (.val undef)).fresh = true → blkOf (u i) ≠ blkOf (u j)) →
   wpList P l.toArray Q ((l.drop N.length).take 1 ++ ((l.drop e0).take 1 ++ l.drop (N.length + 1))) (putsBut e0 u 0 (l.take N.length) a0) x) :
  (Code.region id l.toArray true).wp P Q a0 w0 := by
 subst hsz
 generalize hn0 : N.length = n at *
 simp only [noteLateB, Bool.and_eq_true, decide_eq_true_eq] at hB
 obtain ⟨⟨⟨⟨⟨⟨⟨hn, hw⟩, hd⟩, hf⟩, hin⟩, hseq⟩, he0⟩, hord⟩ := hB
 have hw' := hw
 simp only [lateB, Bool.and_eq_true, decide_eq_true_eq] at hw'
 have hnl : n < l.length := by have := hw'.1.2; simpa using this
 clear hw'
 refine wp_region_any hm ?_
 have e1 : Below w0.heap.size w0 { w0 with drawn := w0.drawn + 1 } := (Below.refl _ _).drew
 have inv0 : HeadInv .any l.toArray n (Array.replicate l.toArray.size false) :=
  ⟨by simp, fun j oj _ hl => (by rw [getD_replicate_false] at hl; cases hl), fun t _ ht => getD_in (by simpa using ht) (getD_replicate_false _ _)⟩
 have H0 : Notes l n (fun i => (N.getD i (.val undef)).phi w0.heap.size) (fun i => (N.getD i (.val undef)).fresh) a0 { w0 with drawn := w0.drawn + 1 } (Array.replicate l.toArray.size false) a0 { w0 with drawn := w0.drawn + 1 } :=
  ⟨Below.refl _ _, rfl, rfl, fun _ _ => rfl, fun i _ hl => (by rw [getD_replicate_false] at hl; cases hl), fun i j _ _ _ hl => (by rw [getD_replicate_false] at hl; cases hl)⟩
 have := notes_late (P := P) (md := .any) (l := l) (n := n) (Q := Q) (Φ := fun i => (N.getD i (.val undef)).phi w0.heap.size) (fresh := fun i => (N.getD i (.val undef)).fresh) (a0 := a0) (w0 := { w0 with drawn := w0.drawn + 1 }) (g := l.length - n) hn e0 he0 hw hd hf
  (fun i _ v w w' h hb => Note.stays h hb)
  (fun i o ho hi a w hb hrest hdeps => by
   obtain ⟨hg, hsel, hop⟩ := indepB_spec hin hi ho
   have hwt : Region.wanted o (yielded l.toArray a.tmps) = true := by unfold Region.wanted; rw [hg]
   refine ⟨fun _ => ?_, fun h => by rw [hwt] at h; cases h⟩
   have hoH : (l.take n)[i]? = some o := by rw [List.getElem?_take, if_pos hi]; exact ho
   have hst := hs.at hoH
   rw [List.nil_append, List.take_take, Nat.min_eq_left (Nat.le_of_lt hi)] at hst
   have hdi := dstB_spec hd hi
   have hdst : o.dst = some (dstOf l i) := by
    obtain ⟨o', h2, h3⟩ := hdi.1
    rw [ho] at h2; cases h2; exact h3
   obtain ⟨p1, p2, p3, p4⟩ := putsFrom_spec (l := l) (n := n) (fun j => (a.tmps[dstOf l j]?).getD undef) hd i (Nat.le_of_lt hi)
   have hwp := hst (fun j => (a.tmps[dstOf l j]?).getD undef) w (e1.trans hb) (fun e he hbd => by
    obtain ⟨v, h1, h2⟩ := hdeps e he hbd
    show (N.getD e.on _).phi _ ((a.tmps[dstOf l e.on]?).getD undef) w
    rw [h1]; exact h2)
   have hlen : (l.take i).length = i := by simp; omega
   rw [hlen, hdst] at hwp
   have hwp2 := wp_of_list hg hwp
   rw [← p2] at hwp2
   have hdo := doesR_of_wp (R := fun v w' => Below w.heap.size w w' ∧ (N.getD i (.val undef)).phi w.heap.size v w') hdst (by rw [p1]; exact hdi.2.1) hwp2
   have hcongr : execOp a.eval o = execOp (putsFrom (fun j => (a.tmps[dstOf l j]?).getD undef) 0 (l.take i) a0).eval o := by
    refine execOp_congr o hsel fun x hx => ?_
    cases x with
    | tmp t =>
     show a.tmps.getD t undef = (putsFrom _ 0 (l.take i) a0).tmps.getD t undef
     rw [Array.getD_eq_getD_getElem?, Array.getD_eq_getD_getElem?]
     by_cases hj : ∃ j, j < n ∧ dstOf l j = t
     ·obtain ⟨j, hj, rfl⟩ := hj
      obtain ⟨e, he, hbd, rfl⟩ := hop _ hx j hj rfl
      have hlt := (headFwd_spec hf hoH).1 e he hbd
      obtain ⟨v, h1, _⟩ := hdeps e he hbd
      rw [p3 e.on hlt, h1]; rfl
     ·have hno : ∀ j, j < n → dstOf l j ≠ t := fun j hj' e => hj ⟨j, hj', e⟩
      rw [p4 t hno, hrest t hno]
    | const v => rfl
    | global g => rfl
    | func f => rfl
   unfold Oper.doesR at hdo ⊢
   rw [hcongr]
   have mono : ∀ {r : Result Next} {R R' : Value → World → Prop}, (∀ v w', R v w' → R' v w') → doesUpon P R r → doesUpon P R' r := by
    intro r R R' hR h
    cases r with
    | halt x w' => exact h
    | ok x w' =>
     cases x <;> simp only [doesUpon] at h ⊢
     case value u => exact hR _ _ h
     case skip => exact hR _ _ h
     case enter f args => exact h.mono fun e w'' ⟨u, h1, h2⟩ => ⟨u, h1, hR _ _ h2⟩
     case row r ars => exact h.mono fun v w'' h1 => hR _ _ h1
   refine mono (fun v w' hv => ?_) hdo
   exact ⟨hv.1, Note.lower hv.2 (e1.trans hb).size, fun hfr => Note.made hv.2 hfr⟩)
  (fun L a w H hz h1 h2 => by
   have eL : L = (List.replicate n true ++ List.replicate (l.length - n) false).toArray := by
    apply Array.ext_getElem?
    intro i
    rcases Nat.lt_or_ge i n with hi | hi
    ·rw [h1 i hi]; simp [List.getElem?_append, hi]
    ·rcases Nat.lt_or_ge i l.length with h3 | h3
     ·rw [h2 i hi h3]; simp [List.getElem?_append, Nat.not_lt.2 hi, List.getElem?_replicate]; omega
     ·rw [Array.getElem?_eq_none (by omega)]; symm; simp; omega
   have lis : ∀ i, i < n → L.getD i false = true := fun i hi => by rw [Array.getD_eq_getD_getElem?, h1 i hi]; rfl
   have ea : a = putsFrom (fun j => (a.tmps[dstOf l j]?).getD undef) 0 (l.take n) a0 := by
    obtain ⟨p1, p2, p3, p4⟩ := putsFrom_spec (l := l) (n := n) (fun j => (a.tmps[dstOf l j]?).getD undef) hd n (Nat.le_refl n)
    refine act_ext (by rw [p2]; exact H.defers) (by rw [p1]; exact H.size) fun k => ?_
    by_cases hj : ∃ j, j < n ∧ dstOf l j = k
    ·obtain ⟨j, hj, rfl⟩ := hj
     obtain ⟨v, h3, _⟩ := H.note j hj (lis j hj)
     rw [p3 j hj, h3]; rfl
    ·have hno : ∀ j, j < n → dstOf l j ≠ k := fun j hj' e => hj ⟨j, hj', e⟩
     rw [p4 k hno, H.rest k hno]
   have hq := hK (fun j => (a.tmps[dstOf l j]?).getD undef) w (e1.trans H.ext) (fun i hi => by
    obtain ⟨v, h3, h4, _⟩ := H.note i hi (lis i hi)
    show (N.getD i _).phi _ ((a.tmps[dstOf l i]?).getD undef) w
    rw [h3]; exact h4) (fun i j hi hj hne hfi hfj => by
    obtain ⟨v, h3, _⟩ := H.note i hi (lis i hi)
    obtain ⟨v', h4, _⟩ := H.note j hj (lis j hj)
    have := H.apart i j hi hj hne (lis i hi) (lis j hj) hfi hfj
    rw [h3, h4] at this
    show blkOf ((a.tmps[dstOf l i]?).getD undef) ≠ blkOf ((a.tmps[dstOf l j]?).getD undef)
    rw [h3, h4]; exact this)
   rw [← ea] at hq
   rw [eL]
   have hdl : (l.drop n).length = l.length - n := by simp
   have := wpAny_of_seq (P := P) (md := .any) (ops := l.toArray) (Q' := Q) (l.drop n) n _ a w (fun j => by simp [List.getElem?_drop]) (by rw [hdl]; exact hseq) hq
   rwa [hdl] at this)
  (fun L a w H hU hz h1 h0 h2 => by
   have lis : ∀ i, i < n → i ≠ e0 → L.getD i false = true := fun i hi hne => by rw [Array.getD_eq_getD_getElem?, h1 i hi hne]; rfl
   have ea : a = putsBut e0 (fun j => (a.tmps[dstOf l j]?).getD undef) 0 (l.take n) a0 := by
    obtain ⟨p1, p2, p3, p4⟩ := putsBut_spec (l := l) (n := n) (e0 := e0) (fun j => (a.tmps[dstOf l j]?).getD undef) hd n (Nat.le_refl n)
    refine act_ext (by rw [p2]; exact H.defers) (by rw [p1]; exact H.size) fun k => ?_
    by_cases hj : ∃ j, j < n ∧ j ≠ e0 ∧ dstOf l j = k
    ·obtain ⟨j, hj, hje, rfl⟩ := hj
     obtain ⟨v, h3, _⟩ := H.note j hj (lis j hj hje)
     rw [p3 j hj hje, h3]; rfl
    ·have hno : ∀ j, j < n → j ≠ e0 → dstOf l j ≠ k := fun j hj' hje e => hj ⟨j, hj', hje, e⟩
     rw [p4 k hno]
     by_cases hk : dstOf l e0 = k
     ·subst hk; exact hU
     ·refine H.rest k fun j hj' => ?_
      by_cases hje : j = e0
      ·subst hje; exact hk
      ·exact hno j hj' hje
   have hq := hL (fun j => (a.tmps[dstOf l j]?).getD undef) w (e1.trans H.ext) (fun i hi hie => by
    obtain ⟨v, h3, h4, _⟩ := H.note i hi (lis i hi hie)
    show (N.getD i _).phi _ ((a.tmps[dstOf l i]?).getD undef) w
    rw [h3]; exact h4) (fun i j hi hj hie hje hne hfi hfj => by
    obtain ⟨v, h3, _⟩ := H.note i hi (lis i hi hie)
    obtain ⟨v', h4, _⟩ := H.note j hj (lis j hj hje)
    have := H.apart i j hi hj hne (lis i hi hie) (lis j hj hje) hfi hfj
    rw [h3, h4] at this
    show blkOf ((a.tmps[dstOf l i]?).getD undef) ≠ blkOf ((a.tmps[dstOf l j]?).getD undef)
    rw [h3, h4]; exact this)
   rw [← ea] at hq
   have eL : L.setIfInBounds n true = lateL l.length n e0 := by
    apply Array.ext_getElem?
    intro i
    unfold lateL
    rcases Nat.lt_or_ge i l.length with h3 | h3
    ·rw [show ((List.range l.length).map fun i => decide (i ≤ n) && decide (i ≠ e0)).toArray[i]? = some (decide (i ≤ n) && decide (i ≠ e0)) by simp [List.getElem?_range h3]]
     rcases Nat.lt_trichotomy i n with hi | hi | hi
     ·rw [Array.getElem?_setIfInBounds_ne (by omega)]
      by_cases hie : i = e0
      ·subst hie; rw [h0]; simp
      ·rw [h1 i hi hie]; simp [hie]; omega
     ·subst hi
      rw [Array.getElem?_setIfInBounds_self_of_lt (by omega)]; simp; omega
     ·rw [Array.getElem?_setIfInBounds_ne (by omega), h2 i (by omega) h3]; simp; omega
    ·rw [Array.getElem?_eq_none (by simp; omega)]; symm; simp; omega
   have e2 : (l.drop n).take 1 = [l[n]] := by rw [List.drop_eq_getElem_cons hnl]; rfl
   have e3 : (l.drop e0).take 1 = [l[e0]] := by rw [List.drop_eq_getElem_cons (by omega)]; rfl
   rw [e2, e3] at hq
   have hlen : (e0 :: List.range' (n + 1) (l.length - n - 1)).length = l.length - n := by simp; omega
   have hw2 : wpOp P l.toArray Q n (wpList P l.toArray Q (l[e0] :: l.drop (n + 1))) a w := by
    unfold wpOp
    simp only [List.getElem?_toArray, List.getElem?_eq_getElem hnl]
    exact hq
   refine wpOp_mono (fun a' w' h' => ?_) hw2
   rw [eL, ← hlen]
   refine wpAny_of_order _ (l[e0] :: l.drop (n + 1)) _ a' w' (by simp; omega) (fun _ _ _ => trivial) (fun j i o hi ho => ?_) hord h'
   cases j with
   | zero =>
    simp only [List.getElem?_cons_zero, Option.some.injEq] at hi ho
    subst hi ho
    simp [List.getElem?_eq_getElem (show e0 < l.length by omega)]
   | succ j =>
    simp only [List.getElem?_cons_succ] at hi ho
    rw [List.getElem?_drop] at ho
    have hj : j < l.length - n - 1 := by have := (List.getElem?_eq_some_iff.1 hi).1; simpa using this
    rw [List.getElem?_range' hj] at hi
    simp only [Option.some.injEq] at hi
    subst hi
    simpa using ho)
  n (Array.replicate l.toArray.size false) a0 { w0 with drawn := w0.drawn + 1 } inv0 H0 (fun _ => rfl) (by simp; omega)
 rw [show n + (l.length - n) = l.toArray.size by simp; omega] at this
 exact this
end
end Go.Proofs.YtekmadgacepdfaaGreat
namespace Go.Proofs.YtekmadgacepdfaaGreat.N
set_option linter.unusedVariables false
set_option linter.unusedSimpArgs false
open Go.RowKit Fl

def fO (s : SpanV) : List RK := match s.rg with
 | none => []
 | some (l, h) => if le : l.v ≤ h.v then [⟨l, h, le⟩] else []
def forms (ss : List SpanV) : List RK := ss.flatMap fO
theorem fO_none {s : SpanV} (h : canonS s.lo s.hi s.a s.b = none) : fO s = [] := by
 have h' : s.rg = none := h
 unfold fO; rw [h']
theorem fO_some {s : SpanV} {l h : Key} (e : canonS s.lo s.hi s.a s.b = some (l, h)) : fO s = [⟨l, h, canonS_le e⟩] := by
 have h' : s.rg = some (l, h) := e
 unfold fO; rw [h']
 exact dif_pos (canonS_le e)
theorem forms_snoc {ss : List SpanV} {i : Nat} {s : SpanV} (h : ss[i]? = some s) : forms (ss.take (i + 1)) = forms (ss.take i) ++ fO s := by
 unfold forms
 rw [List.take_add_one, h, List.flatMap_append]
 simp
theorem fO_le (s : SpanV) : (fO s).length ≤ 1 := by
 unfold fO
 split
 ·exact Nat.zero_le _
 ·split <;> simp
theorem forms_le : ∀ ss : List SpanV, (forms ss).length ≤ ss.length
 | [] => Nat.le_refl _
 | s :: ss => by
  have h1 := forms_le ss
  have h2 := fO_le s
  show (fO s ++ forms ss).length ≤ ss.length + 1
  rw [List.length_append]; omega
theorem forms_take_le (ss : List SpanV) (i : Nat) : (forms (ss.take i)).length ≤ ss.length := Nat.le_trans (forms_le _) (by rw [List.length_take]; omega)
theorem joinL_len : ∀ (l : List RK) (s : RK), (joinL l s).length ≤ l.length + 1
 | [], _ => Nat.le_refl _
 | [x], s => by unfold joinL; split <;> simp
 | x :: y :: t, s => by
  have := joinL_len (y :: t) s
  show (joinL (y :: t) s).length + 1 ≤ _
  simp at this ⊢; omega
theorem joinAll_take {l : List RK} {i : Nat} {x : RK} (h : l[i]? = some x) : joinAll [] (l.take (i + 1)) = joinL (joinAll [] (l.take i)) x := by
 unfold joinAll
 rw [List.take_add_one, h, List.foldl_append]; rfl
theorem joinAll_lo (z : Int) : ∀ (l acc : List RK), gapped acc → risesLo l → (∀ x ∈ acc, ∀ y ∈ l, x.lo.v ≤ y.lo.v) → (∀ y ∈ l, y.lo.v ≤ z) → (∀ x ∈ acc, x.lo.v ≤ z) → ∀ x ∈ joinAll acc l, x.lo.v ≤ z
 | [], _, _, _, _, _, h => h
 | s :: l, acc, hg, hr, hle, hz, ha => by
  obtain ⟨r1, r2⟩ := List.pairwise_cons.1 hr
  obtain ⟨a, _, c, _⟩ := joinL_spec acc s hg fun x hx => hle x hx s (by simp)
  exact joinAll_lo z l (joinL acc s) a r2 (fun x hx y hy => Int.le_trans (c x hx) (r1 y hy)) (fun y hy => hz y (by simp [hy])) (fun x hx => Int.le_trans (c x hx) (hz s (by simp)))
theorem joinAll_le {l : List RK} (hr : risesLo l) {j : Nat} {x : RK} (hx : l[j]? = some x) : ∀ y ∈ joinAll [] (l.take j), y.lo.v ≤ x.lo.v := by
 refine joinAll_lo x.lo.v (l.take j) [] List.Pairwise.nil (hr.sublist (List.take_sublist _ _)) (fun _ h => by cases h) (fun y hy => ?_) (fun _ h => by cases h)
 obtain ⟨i, hi, rfl⟩ := List.mem_take_iff_getElem.1 hy
 obtain ⟨hj, rfl⟩ := List.getElem?_eq_some_iff.1 hx
 exact List.pairwise_iff_getElem.1 hr i j (by omega) hj (by omega)
theorem joinL_snoc (p : List RK) (y s : RK) : joinL (p ++ [y]) s = p ++ joinL [y] s := by
 induction p with
 | nil => rfl
 | cons x t ih =>
  cases t with
  | nil => rfl
  | cons z t =>
   show x :: joinL (z :: (t ++ [y])) s = x :: (z :: t ++ joinL [y] s)
   rw [← ih]; rfl
theorem next_lt (h l : Key) : flt (knext h).bits l.bits = decide (h.v + 1 < l.v) := by
 rw [flt_kk]
 by_cases e : h.v = (inf : Int)
 ·have := l.hi
  have e2 : (knext h).v = h.v := by simp [knext, e]
  rw [e2, decide_eq_decide]; omega
 ·rw [knext_v e]
theorem join_last (y s : RK) (hlo : y.lo.v ≤ s.lo.v) (b : Bool) (hb : decide (y.hi.v + 1 < s.lo.v) = b) (w : World) :
  (b = true → joinL [y] s = [y, s] ∧ Calls Tryz.prog 119 #[.agg #[.float .f64 y.lo.bits, .float .f64 y.hi.bits, .bool false, .bool false], .agg #[.float .f64 s.lo.bits, .float .f64 s.hi.bits, .bool false, .bool false]] w (Ret (.tuple #[.agg #[.float .f64 0, .float .f64 0, .bool true, .bool true], .bool false]) w)) ∧
  (b = false → ∃ z : RK, joinL [y] s = [z] ∧ ∀ w : World, Calls Tryz.prog 119 #[.agg #[.float .f64 y.lo.bits, .float .f64 y.hi.bits, .bool false, .bool false], .agg #[.float .f64 s.lo.bits, .float .f64 s.hi.bits, .bool false, .bool false]] w (Ret (.tuple #[.agg #[.float .f64 z.lo.bits, .float .f64 z.hi.bits, .bool false, .bool false], .bool true]) w)) := by
 have hy := y.le
 have hs := s.le
 constructor
 ·rintro rfl
  have h1 : y.hi.v + 1 < s.lo.v := by simpa using hb
  refine ⟨by unfold joinL; rw [if_pos h1], ?_⟩
  exact join_ssA _ _ _ _ _ _ _ _ w (Key.bits_lt _) (Key.bits_lt _) (Key.bits_lt _) (Key.bits_lt _) y.lo y.hi (hid (canonS_canon _ _ hy)) s.lo s.hi (hid (canonS_canon _ _ hs)) (by rw [next_lt]; exact hb)
 ·rintro rfl
  have h1 : ¬ y.hi.v + 1 < s.lo.v := by simpa using hb
  refine ⟨⟨kLeast y.lo s.lo, kMost y.hi s.hi, by rw [kLeast_v, kMost_v]; split <;> split <;> omega⟩, ?_, fun w => ?_⟩
  ·unfold joinL
   rw [if_neg h1]
   congr 1
  ·exact join_ssC _ _ _ _ _ _ _ _ w (Key.bits_lt _) (Key.bits_lt _) (Key.bits_lt _) (Key.bits_lt _) y.lo y.hi (hid (canonS_canon _ _ hy)) s.lo s.hi (hid (canonS_canon _ _ hs)) (by rw [next_lt]; exact hb) (by rw [next_lt]; simp; omega)
theorem joinAll_len (l : List RK) : ∀ acc : List RK, (joinAll acc l).length ≤ acc.length + l.length := by
 induction l with
 | nil => intro acc; exact Nat.le_refl _
 | cons x t ih =>
  intro acc
  have h1 := ih (joinL acc x)
  have h2 := joinL_len acc x
  show (joinAll (joinL acc x) t).length ≤ _
  simp; omega

def NormRet (w : World) (l : List RK) (e : Ending) (w' : World) : Prop :=
 ∃ a c, e = .returned (.slice a l.length c) ∧ w'.ownsRow w.heap.size 121 4 (.slice a l.length c) l.length (sCells l) ∧ Below w.heap.size w w'

def SortForms (S : List RK → List RK) : Prop := ∀ (w : World) (base : Nat) (a : Option Addr) (c : Nat) (l : List RK), w.ownsRow base 121 4 (.slice a l.length c) l.length (sCells l) → l.length < 4611686018427387904 →
  Calls Tryz.prog 117 #[.slice a l.length c, .func (.func 118) #[] #[]] w fun e w' => e = .returned (.tuple #[]) ∧
   w'.ownsRow base 121 4 (.slice a l.length c) l.length (sCells (S l)) ∧ w.grownBy w' (Value.slice a l.length c).ownBlock

set_option maxHeartbeats 1000000 in
set_option maxRecDepth 100000 in
theorem norm_of (S : List RK → List RK) (hSl : ∀ l, (S l).length = l.length) (hSr : ∀ l, risesLo (S l)) (SF : SortForms S) (a : Option Addr) (c : Nat) (ss : List SpanV) (n : Nat) (w : World) (hn : ss.length = n) (h : SAt w a ss) (hlen : n ≤ 5864062014634) :
  Calls Tryz.prog 69 #[.slice a n c] w (NormRet w (joinAll [] (S (forms ss)))) := by
 have HN := hid hn; have HS := hid h
 have HF := hid fun i => forms_take_le ss i
 have HT : Hid (forms (ss.take n) = forms ss) := hid (by rw [← hn, List.take_length])
 have hown0 : w.ownsRow w.heap.size 121 4 (.slice none 0 0) 0 [] := ⟨rfl, .inl ⟨rfl, rfl⟩⟩
 have H0 := hid hown0
 clear hn h hown0
 go_enter Tryz.func69, Tryz.ntmps69
 go_wp2
 go_loopw [13, 3] (fun iv uv wr => ∃ (i : Nat) (u : Option Addr) (cu : Nat), i ≤ n ∧ iv = .int .i64 i ∧ uv = .slice u (forms (ss.take i)).length cu ∧ Hid (wr.ownsRow w.heap.size 121 4 (.slice u (forms (ss.take i)).length cu) (forms (ss.take i)).length (sCells (forms (ss.take i)))) ∧ Below w.heap.size w wr) (fun iv _ _ => n - (intOf iv).toNat)
 case atStart => exact ⟨0, none, 0, Nat.zero_le _, rfl, rfl, H0, Below.refl _ _⟩
 case round =>
  obtain ⟨i, u, cu, hin, rfl, rfl, HO, hb⟩ := hrel
  have hz := hb.size
  by_cases hlt : i < n
  ·have hlt' : (i : Int) < (n : Int) := by omega
   have hil : i < ss.length := by rw [HN.out]; exact hlt
   have hx := hid (sp_some hil)
   obtain ⟨l1, l2⟩ := HS.out.lt i hil
   have hrow := HS.out.row
   rcases hrow with h0 | ⟨g, o, rfl, hg, hcs⟩
   ·rw [h0] at hil; simp at hil
   obtain ⟨c0, c1, c2, c3⟩ := hcs i hil
   have kk := fun j => hb.cell (p := ⟨g, j, none⟩) hg
   have d0 := (kk _).trans c0; have d1 := (kk _).trans c1; have d2 := (kk _).trans c2; have d3 := (kk _).trans c3
   have hle := HF.out i
   rw [HN.out] at hle
   clear c0 c1 c2 c3 kk hcs hil
   generalize ss[i]?.getD default = s at *
   have hgw : g < wr.heap.size := by omega
   rcases hr : canonS s.lo s.hi s.a s.b with _ | ⟨l, h⟩
   ·have hs := forms_snoc hx.out
    rw [fO_none hr, List.append_nil] at hs
    have HR := hid hs
    have HRR := hid hr
    clear hs hr
    go_wp2_with (go_at_call 116; (with_reducible refine (canon_isN s.lo s.hi s.a s.b _ l1 l2 HRR).mono ?_); rintro e w1 ⟨rfl, hb1⟩; obtain ⟨hc1, hf1⟩ := bcell hb1; (try simp only [qD, qE, qF] at hc1 hf1); have hz1 := hb1.size; (try simp at hz1); (try have hy1_0 : w.heap.size < w1.heap.size := by omega); (try have hy1_1 : w.heap.size + 1 < w1.heap.size := by omega); (try have hy1_2 : w.heap.size + 2 < w1.heap.size := by omega); (try have hy1_3 : w.heap.size + 3 < w1.heap.size := by omega); (try have hx1_0 : w.heap.size ≤ w1.heap.size := by omega); (try have hx1_1 : w.heap.size + 1 ≤ w1.heap.size := by omega); (try have hx1_2 : w.heap.size + 2 ≤ w1.heap.size := by omega); (try have hu1_wr_0 : wr.heap.size < w1.heap.size := by omega); (try have hu1_wr_1 : wr.heap.size + 1 < w1.heap.size := by omega))
    go_roundw
    case rel => exact ⟨i + 1, u, cu, by omega, by go_num, by rw [HR.out], hid (by rw [HR.out]; exact HO.out.kept (grown_of_below (w := wr) (by exact below_auto)) (by cases (Value.slice u (forms (ss.take i)).length cu).ownBlock <;> simp)), by exact below_auto⟩
    case measure => simp [intOf]; omega
   ·obtain ⟨x, rfl, rfl, hfx⟩ : ∃ x : RK, x.lo = l ∧ x.hi = h ∧ fO s = [x] := ⟨⟨l, h, canonS_le hr⟩, rfl, rfl, fO_some hr⟩
    have hs := forms_snoc hx.out
    rw [hfx] at hs
    have HR := hid hs
    have HRR := hid hr
    clear hs hr hfx
    go_upto_region 7 with (go_at_call 116; (with_reducible refine (canon_isS s.lo s.hi s.a s.b x.lo x.hi _ l1 l2 HRR).mono ?_); rintro e w1 ⟨rfl, hb1⟩; obtain ⟨hc1, hf1⟩ := bcell hb1; (try simp only [qD, qE, qF] at hc1 hf1); have hz1 := hb1.size; (try simp at hz1); (try have hy1_0 : w.heap.size < w1.heap.size := by omega); (try have hy1_1 : w.heap.size + 1 < w1.heap.size := by omega); (try have hy1_2 : w.heap.size + 2 < w1.heap.size := by omega); (try have hy1_3 : w.heap.size + 3 < w1.heap.size := by omega); (try have hx1_0 : w.heap.size ≤ w1.heap.size := by omega); (try have hx1_1 : w.heap.size + 1 ≤ w1.heap.size := by omega); (try have hx1_2 : w.heap.size + 2 ≤ w1.heap.size := by omega); (try have hu1_wr_0 : wr.heap.size < w1.heap.size := by omega); (try have hu1_wr_1 : wr.heap.size + 1 < w1.heap.size := by omega))
    (generalize hW5 : World.setCell _ _ _ = w5; have hB5 : Below w.heap.size w w5 := (by rw [← hW5]; exact below_auto); have hC5 : Below wr.heap.size wr w5 := (by rw [← hW5]; exact below_auto); have hS5 : wr.heap.size < w5.heap.size := (by rw [← hW5]; first | (simp [go_sem]; done) | (simp [go_sem]; omega)); have cx5_0 := congrArg (fun W => W.cell? ⟨wr.heap.size, 0, none⟩) hW5.symm; have fx5_0 := congrArg (fun W => W.frozen? ⟨wr.heap.size, 0, none⟩) hW5.symm; have cx5_1 := congrArg (fun W => W.cell? ⟨wr.heap.size, 1, none⟩) hW5.symm; have fx5_1 := congrArg (fun W => W.frozen? ⟨wr.heap.size, 1, none⟩) hW5.symm; have cx5_2 := congrArg (fun W => W.cell? ⟨wr.heap.size, 2, none⟩) hW5.symm; have fx5_2 := congrArg (fun W => W.frozen? ⟨wr.heap.size, 2, none⟩) hW5.symm; have cx5_3 := congrArg (fun W => W.cell? ⟨wr.heap.size, 3, none⟩) hW5.symm; have fx5_3 := congrArg (fun W => W.frozen? ⟨wr.heap.size, 3, none⟩) hW5.symm; clear hW5; simp [go_sem, *] at cx5_0; simp [go_sem, *] at fx5_0; simp [go_sem, *] at cx5_1; simp [go_sem, *] at fx5_1; simp [go_sem, *] at cx5_2; simp [go_sem, *] at fx5_2; simp [go_sem, *] at cx5_3; simp [go_sem, *] at fx5_3)
    have hown := HO.out.kept (grown_of_below hC5) (by cases (Value.slice u (forms (ss.take i)).length cu).ownBlock <;> simp)
    clear hb1 hc1 hf1 hz1 hu1_wr_0
    (try clear hy1_0 hx1_0 hx1_1)
    obtain ⟨a', c', w', hr, ho', hb'⟩ := app1 x hB5 hown hB5.size (by omega)
    have HO' := hid ho'
    clear ho' hown
    go_wp2_with (at_builtin; refine Lib.wpList_append_run _ rfl _ _ _ _ rfl _ _ rfl rfl _ _ (hr _) ?_)
    go_roundw
    case rel => exact ⟨i + 1, a', c', by omega, by go_num, by rw [HR.out]; simp, hid (by rw [HR.out, List.length_append]; exact HO'.out), hb'⟩
    case measure => simp [intOf]; omega
  ·obtain rfl : i = n := by omega
   have HO1 := HO.out
   have hle := HF.out i
   rw [HN.out] at hle
   rw [HT.out] at HO1 hle ⊢
   have hl2 := hSl (forms ss)
   have hr2 := hSr (forms ss)
   clear HT HF HO HS H0
   generalize forms ss = F at *
   have H := SF wr w.heap.size u cu F HO1 (by omega)
   go_wp2_with (go_at_call 117; refine H.mono ?_; rintro e w1 ⟨rfl, hown1, hg1⟩)
   clear H
   have hb1 : Below w.heap.size w w1 := hb.grown hg1 hz (fun k hk => (HO1.lt k hk).1)
   have hz1 := hb1.size
   generalize S F = G at *
   generalize F.length = m at *
   have HG := hid hr2
   have HL := hid hl2
   have HC : Hid (∀ wr, Below w1.heap.size w1 wr → ∀ j, j < m → ∃ g, u = some ⟨g, 0, none⟩ ∧ g < wr.heap.size ∧ wr.cell? ⟨g, j * 4, none⟩ = some (.float .f64 (G[j]?.getD default).lo.bits) ∧ wr.cell? ⟨g, j * 4 + 1, none⟩ = some (.float .f64 (G[j]?.getD default).hi.bits) ∧ wr.cell? ⟨g, j * 4 + 2, none⟩ = some (.bool false) ∧ wr.cell? ⟨g, j * 4 + 3, none⟩ = some (.bool false)) := hid fun wr hbw j hj => by
    rcases hown1.2 with ⟨h1, h2⟩ | ⟨g, cap, cur, h1, _⟩
    ·omega
    ·cases h1
     have hcl := hown1.cells (g := g) rfl
     have hgl := (hown1.lt g rfl).2
     have hx : G[j]? = some (G[j]?.getD default) := by rw [List.getElem?_eq_getElem (by omega)]; rfl
     have := hbw.size
     have q := fun t (ht : t < 4) => flat_get enc_len hx ht
     have at' : ∀ t v, t < 4 → (enc (G[j]?.getD default))[t]? = some v → wr.cell? ⟨g, j * 4 + t, none⟩ = some v := fun t v ht hv => (hbw.cell (p := ⟨g, j * 4 + t, none⟩) hgl).trans ((by rw [← addr0]; exact hcl _ v ((q t ht).trans hv)))
     exact ⟨g, rfl, by omega, at' 0 _ (by omega) rfl, at' 1 _ (by omega) rfl, at' 2 _ (by omega) rfl, at' 3 _ (by omega) rfl⟩
   have h00 : Hid (w1.ownsRow w1.heap.size 121 4 (.slice none 0 0) 0 []) := hid ⟨rfl, .inl ⟨rfl, rfl⟩⟩
   clear hg1 hr2 hl2 hown1 HO1
   go_wp2
   go_loopw [31, 4] (fun iv uv w2 => ∃ (j : Nat) (v : Option Addr) (cv : Nat), j ≤ m ∧ iv = .int .i64 j ∧ uv = .slice v (joinAll [] (G.take j)).length cv ∧ Hid (w2.ownsRow w1.heap.size 121 4 (.slice v (joinAll [] (G.take j)).length cv) (joinAll [] (G.take j)).length (sCells (joinAll [] (G.take j)))) ∧ Below w1.heap.size w1 w2) (fun iv _ _ => m - (intOf iv).toNat)
   case atStart => exact ⟨0, none, 0, Nat.zero_le _, rfl, rfl, h00, Below.refl _ _⟩
   case round =>
    obtain ⟨j, v, cv, hjm, rfl, rfl, HO2, hb2⟩ := hrel
    have hz2 := hb2.size
    have hjl := joinAll_len (G.take j) []
    rw [List.length_take, HL.out] at hjl
    simp only [List.length_nil, Nat.zero_add] at hjl
    by_cases hlt : j < m
    ·have hlt' : (j : Int) < (m : Int) := by omega
     obtain ⟨g, rfl, hgw, d0, d1, d2, d3⟩ := HC.out wr hb2 j hlt
     have hx : G[j]? = some (G[j]?.getD default) := by rw [List.getElem?_eq_getElem (by rw [HL.out]; omega)]; rfl
     generalize G[j]?.getD default = x at *
     have hstep := joinAll_take hx
     have hxle := joinAll_le HG.out hx
     rcases List.eq_nil_or_concat (joinAll [] (G.take j)) with he | ⟨p, y, he⟩
     ·rw [he] at HO2 hstep ⊢
      have HR : Hid (joinAll [] (G.take (j + 1)) = [] ++ [x]) := hid hstep
      clear hstep hxle he
      go_upto_region 17 with fail
      (generalize hW5 : World.alloc _ _ = w5; have hB5 : Below w.heap.size w w5 := (by rw [← hW5]; exact below_auto); have hC5 : Below wr.heap.size wr w5 := (by rw [← hW5]; exact below_auto); have hS5 : wr.heap.size < w5.heap.size := (by rw [← hW5]; first | (simp [go_sem]; done) | (simp [go_sem]; omega)); have cx5_0 := congrArg (fun W => W.cell? ⟨wr.heap.size, 0, none⟩) hW5.symm; have fx5_0 := congrArg (fun W => W.frozen? ⟨wr.heap.size, 0, none⟩) hW5.symm; have cx5_1 := congrArg (fun W => W.cell? ⟨wr.heap.size, 1, none⟩) hW5.symm; have fx5_1 := congrArg (fun W => W.frozen? ⟨wr.heap.size, 1, none⟩) hW5.symm; have cx5_2 := congrArg (fun W => W.cell? ⟨wr.heap.size, 2, none⟩) hW5.symm; have fx5_2 := congrArg (fun W => W.frozen? ⟨wr.heap.size, 2, none⟩) hW5.symm; have cx5_3 := congrArg (fun W => W.cell? ⟨wr.heap.size, 3, none⟩) hW5.symm; have fx5_3 := congrArg (fun W => W.frozen? ⟨wr.heap.size, 3, none⟩) hW5.symm; clear hW5; simp [go_sem, *] at cx5_0; simp [go_sem, *] at fx5_0; simp [go_sem, *] at cx5_1; simp [go_sem, *] at fx5_1; simp [go_sem, *] at cx5_2; simp [go_sem, *] at fx5_2; simp [go_sem, *] at cx5_3; simp [go_sem, *] at fx5_3)
      have hB6 : Below w1.heap.size w1 w5 := hb2.trans (hC5.mono hz2)
      have hown := HO2.out.kept (grown_of_below hC5) (by cases (Value.slice v ([] : List RK).length cv).ownBlock <;> simp)
      obtain ⟨a', c', w', hr, ho', hb'⟩ := app1 x hB6 hown hB6.size (by simp)
      have HO' := hid ho'
      clear ho' hown hjl
      simp only [List.length_nil, Nat.zero_add] at hr
      go_wp2_with (at_builtin; refine Lib.wpList_append_run _ rfl _ _ _ _ rfl _ _ rfl rfl _ _ (hr _) ?_)
      go_roundw
      case rel => exact ⟨j + 1, a', c', by omega, by go_num, by rw [HR.out]; simp, hid (by rw [HR.out, List.length_append]; exact HO'.out), hb'⟩
      case measure => simp [intOf]; omega
     ·rw [List.concat_eq_append] at he
      rw [he, joinL_snoc] at hstep
      rw [he] at HO2 hjl ⊢
      have hyx : y.lo.v ≤ x.lo.v := hxle y (by rw [he]; simp)
      clear hxle he hx
      have hpl : (p ++ [y]).length = p.length + 1 := by simp
      rw [hpl] at HO2 hjl ⊢
      obtain ⟨q, hq⟩ : ∃ q, p.length = q := ⟨_, rfl⟩
      rw [hq] at HO2 hjl hpl ⊢
      rcases HO2.out.2 with ⟨h1, h2⟩ | ⟨g', cap, cur, h1, hbg, hbl, _⟩
      ·cases h1
      cases h1
      have hgl := (HO2.out.lt g' rfl).2
      have hyx2 : (p ++ [y])[q]? = some y := by rw [List.getElem?_append_right (by omega), ← hq]; simp
      have hcl := HO2.out.cells (g := g') rfl
      have at' : ∀ t u, t < 4 → (enc y)[t]? = some u → wr.cell? ⟨g', q * 4 + t, none⟩ = some u := fun t u ht hu => by rw [← addr0]; exact hcl _ u ((flat_get enc_len hyx2 ht).trans hu)
      have e0 : wr.cell? ⟨g', q * 4, none⟩ = some (.float .f64 y.lo.bits) := at' 0 _ (by omega) rfl
      have e1 := at' 1 _ (by omega) rfl
      have e2 := at' 2 _ (by omega) rfl
      have e3 := at' 3 _ (by omega) rfl
      have f' : ∀ o, wr.frozen? ⟨g', o, none⟩ = false := fun o => by simp [World.frozen?, hbl]
      clear at' hcl hyx2 hbl hpl
      obtain ⟨b, hbq⟩ : ∃ b, decide (y.hi.v + 1 < x.lo.v) = b := ⟨_, rfl⟩
      have HJL := fun W => join_last y x hyx b hbq W
      cases b
      ·obtain ⟨z, hz', HJ⟩ := (HJL w).2 rfl
       clear HJL hbq hyx
       rw [hz'] at hstep
       have HR := hid hstep
       clear hz' hstep
       go_upto_region 14 with fail
       (generalize hW5 : World.alloc _ _ = w5; have hB5 : Below w.heap.size w w5 := (by rw [← hW5]; exact below_auto); have hC5 : Below wr.heap.size wr w5 := (by rw [← hW5]; exact below_auto); have hS5 : wr.heap.size < w5.heap.size := (by rw [← hW5]; first | (simp [go_sem]; done) | (simp [go_sem]; omega)); have cx5_0 := congrArg (fun W => W.cell? ⟨wr.heap.size, 0, none⟩) hW5.symm; have fx5_0 := congrArg (fun W => W.frozen? ⟨wr.heap.size, 0, none⟩) hW5.symm; have cx5_1 := congrArg (fun W => W.cell? ⟨wr.heap.size, 1, none⟩) hW5.symm; have fx5_1 := congrArg (fun W => W.frozen? ⟨wr.heap.size, 1, none⟩) hW5.symm; have cx5_2 := congrArg (fun W => W.cell? ⟨wr.heap.size, 2, none⟩) hW5.symm; have fx5_2 := congrArg (fun W => W.frozen? ⟨wr.heap.size, 2, none⟩) hW5.symm; have cx5_3 := congrArg (fun W => W.cell? ⟨wr.heap.size, 3, none⟩) hW5.symm; have fx5_3 := congrArg (fun W => W.frozen? ⟨wr.heap.size, 3, none⟩) hW5.symm; clear hW5; simp [go_sem, *] at cx5_0; simp [go_sem, *] at fx5_0; simp [go_sem, *] at cx5_1; simp [go_sem, *] at fx5_1; simp [go_sem, *] at cx5_2; simp [go_sem, *] at fx5_2; simp [go_sem, *] at cx5_3; simp [go_sem, *] at fx5_3)
       have hgl5 : g' < w5.heap.size := by omega
       have x0 := (hC5.cell (p := ⟨g', _, none⟩) hgl).trans e0
       have x1 := (hC5.cell (p := ⟨g', _, none⟩) hgl).trans e1
       have x2 := (hC5.cell (p := ⟨g', _, none⟩) hgl).trans e2
       have x3 := (hC5.cell (p := ⟨g', _, none⟩) hgl).trans e3
       have hb25 := hb2.trans (hC5.mono hz2)
       have hz5 := hb25.size
       refine wp_region_notes_late [Note.val (.slice (some ⟨g', 0, none⟩) (q + 1) cv), Note.val (.slice (some ⟨g', 0, none⟩) (q + 1) cv), Note.val (.int .i64 ((q : Int) + 1)), Note.val (.int .i64 q), Note.val (.pointer (some ⟨g', q * 4, none⟩)), Note.val (.agg #[.float .f64 y.lo.bits, .float .f64 y.hi.bits, .bool false, .bool false]), Note.val (.agg #[.float .f64 x.lo.bits, .float .f64 x.hi.bits, .bool false, .bool false]), Note.val (.tuple #[.agg #[.float .f64 z.lo.bits, .float .f64 z.hi.bits, .bool false, .bool false], .bool true]), Note.val (.tuple #[.agg #[.float .f64 z.lo.bits, .float .f64 z.hi.bits, .bool false, .bool false], .bool true]), Note.val (.agg #[.float .f64 z.lo.bits, .float .f64 z.hi.bits, .bool false, .bool false]), Note.val (.bool true), Note.ptr [.float .f64 0, .float .f64 0, .bool false, .bool false]] 10 rfl (by kernel_rfl) (by kernel_rfl) ?_ ?_ ?_
       ·simp only [List.length_cons, List.length_nil, Nat.reduceAdd, List.take_succ_cons, List.take_zero, StepsN, List.nil_append, List.cons_append]
        refine ⟨?_, ?_, ?_, ?_, ?_, ?_, ?_, ?_, ?_, ?_, ?_, ?_, trivial⟩
        ·intro u w6 hb6 hd
         obtain ⟨hc6, hf6⟩ := bcell hb6
         (try simp only [qD, qE, qF] at hc6 hf6)
         have hz6 := hb6.size
         (try simp at hz6)
         (try have hy6_0 : w.heap.size < w6.heap.size := by omega)
         (try have hy6_1 : w.heap.size + 1 < w6.heap.size := by omega)
         (try have hy6_2 : w.heap.size + 2 < w6.heap.size := by omega)
         (try have hy6_3 : w.heap.size + 3 < w6.heap.size := by omega)
         (try have hx6_0 : w.heap.size ≤ w6.heap.size := by omega)
         (try have hx6_1 : w.heap.size + 1 ≤ w6.heap.size := by omega)
         (try have hx6_2 : w.heap.size + 2 ≤ w6.heap.size := by omega)
         (try (simp [Region.binds, Note.phi, cellsAre] at hd))
         revert hd
         (try simp only [putsFrom, Act.put, qA, qB, qC, Nat.zero_add, Nat.reduceAdd])
         ((try simp only [forall_exists_index, and_imp]); intros)
         clear u
         go_wp2_with (first | (go_at_call 119; (with_reducible refine (HJ _).mono ?_); rintro e wy ⟨rfl, hby⟩))
         exact ⟨rfl, by exact below_auto, rfl⟩
        ·intro u w6 hb6 hd
         obtain ⟨hc6, hf6⟩ := bcell hb6
         (try simp only [qD, qE, qF] at hc6 hf6)
         have hz6 := hb6.size
         (try simp at hz6)
         (try have hy6_0 : w.heap.size < w6.heap.size := by omega)
         (try have hy6_1 : w.heap.size + 1 < w6.heap.size := by omega)
         (try have hy6_2 : w.heap.size + 2 < w6.heap.size := by omega)
         (try have hy6_3 : w.heap.size + 3 < w6.heap.size := by omega)
         (try have hx6_0 : w.heap.size ≤ w6.heap.size := by omega)
         (try have hx6_1 : w.heap.size + 1 ≤ w6.heap.size := by omega)
         (try have hx6_2 : w.heap.size + 2 ≤ w6.heap.size := by omega)
         (try (simp [Region.binds, Note.phi, cellsAre] at hd))
         revert hd
         (try simp only [putsFrom, Act.put, qA, qB, qC, Nat.zero_add, Nat.reduceAdd])
         generalize u 0 = u0
         ((try simp only [forall_exists_index, and_imp]); intros)
         (try subst u0)
         clear u
         go_wp2_with (first | (go_at_call 119; (with_reducible refine (HJ _).mono ?_); rintro e wy ⟨rfl, hby⟩))
         exact ⟨rfl, by exact below_auto, rfl⟩
        ·intro u w6 hb6 hd
         obtain ⟨hc6, hf6⟩ := bcell hb6
         (try simp only [qD, qE, qF] at hc6 hf6)
         have hz6 := hb6.size
         (try simp at hz6)
         (try have hy6_0 : w.heap.size < w6.heap.size := by omega)
         (try have hy6_1 : w.heap.size + 1 < w6.heap.size := by omega)
         (try have hy6_2 : w.heap.size + 2 < w6.heap.size := by omega)
         (try have hy6_3 : w.heap.size + 3 < w6.heap.size := by omega)
         (try have hx6_0 : w.heap.size ≤ w6.heap.size := by omega)
         (try have hx6_1 : w.heap.size + 1 ≤ w6.heap.size := by omega)
         (try have hx6_2 : w.heap.size + 2 ≤ w6.heap.size := by omega)
         (try (simp [Region.binds, Note.phi, cellsAre] at hd))
         revert hd
         (try simp only [putsFrom, Act.put, qA, qB, qC, Nat.zero_add, Nat.reduceAdd])
         generalize u 0 = u0
         generalize u 1 = u1
         ((try simp only [forall_exists_index, and_imp]); intros)
         (try subst u0)
         (try subst u1)
         clear u
         go_wp2_with (first | (go_at_call 119; (with_reducible refine (HJ _).mono ?_); rintro e wy ⟨rfl, hby⟩))
         exact ⟨rfl, by exact below_auto, rfl⟩
        ·intro u w6 hb6 hd
         obtain ⟨hc6, hf6⟩ := bcell hb6
         (try simp only [qD, qE, qF] at hc6 hf6)
         have hz6 := hb6.size
         (try simp at hz6)
         (try have hy6_0 : w.heap.size < w6.heap.size := by omega)
         (try have hy6_1 : w.heap.size + 1 < w6.heap.size := by omega)
         (try have hy6_2 : w.heap.size + 2 < w6.heap.size := by omega)
         (try have hy6_3 : w.heap.size + 3 < w6.heap.size := by omega)
         (try have hx6_0 : w.heap.size ≤ w6.heap.size := by omega)
         (try have hx6_1 : w.heap.size + 1 ≤ w6.heap.size := by omega)
         (try have hx6_2 : w.heap.size + 2 ≤ w6.heap.size := by omega)
         (try (simp [Region.binds, Note.phi, cellsAre] at hd))
         revert hd
         (try simp only [putsFrom, Act.put, qA, qB, qC, Nat.zero_add, Nat.reduceAdd])
         generalize u 0 = u0
         generalize u 1 = u1
         generalize u 2 = u2
         ((try simp only [forall_exists_index, and_imp]); intros)
         (try subst u0)
         (try subst u1)
         (try subst u2)
         clear u
         go_wp2_with (first | (go_at_call 119; (with_reducible refine (HJ _).mono ?_); rintro e wy ⟨rfl, hby⟩))
         exact ⟨rfl, by exact below_auto, rfl⟩
        ·intro u w6 hb6 hd
         obtain ⟨hc6, hf6⟩ := bcell hb6
         (try simp only [qD, qE, qF] at hc6 hf6)
         have hz6 := hb6.size
         (try simp at hz6)
         (try have hy6_0 : w.heap.size < w6.heap.size := by omega)
         (try have hy6_1 : w.heap.size + 1 < w6.heap.size := by omega)
         (try have hy6_2 : w.heap.size + 2 < w6.heap.size := by omega)
         (try have hy6_3 : w.heap.size + 3 < w6.heap.size := by omega)
         (try have hx6_0 : w.heap.size ≤ w6.heap.size := by omega)
         (try have hx6_1 : w.heap.size + 1 ≤ w6.heap.size := by omega)
         (try have hx6_2 : w.heap.size + 2 ≤ w6.heap.size := by omega)
         (try (simp [Region.binds, Note.phi, cellsAre] at hd))
         revert hd
         (try simp only [putsFrom, Act.put, qA, qB, qC, Nat.zero_add, Nat.reduceAdd])
         generalize u 0 = u0
         generalize u 1 = u1
         generalize u 2 = u2
         generalize u 3 = u3
         ((try simp only [forall_exists_index, and_imp]); intros)
         (try subst u0)
         (try subst u1)
         (try subst u2)
         (try subst u3)
         clear u
         go_wp2_with (first | (go_at_call 119; (with_reducible refine (HJ _).mono ?_); rintro e wy ⟨rfl, hby⟩))
         exact ⟨rfl, by exact below_auto, rfl⟩
        ·intro u w6 hb6 hd
         obtain ⟨hc6, hf6⟩ := bcell hb6
         (try simp only [qD, qE, qF] at hc6 hf6)
         have hz6 := hb6.size
         (try simp at hz6)
         (try have hy6_0 : w.heap.size < w6.heap.size := by omega)
         (try have hy6_1 : w.heap.size + 1 < w6.heap.size := by omega)
         (try have hy6_2 : w.heap.size + 2 < w6.heap.size := by omega)
         (try have hy6_3 : w.heap.size + 3 < w6.heap.size := by omega)
         (try have hx6_0 : w.heap.size ≤ w6.heap.size := by omega)
         (try have hx6_1 : w.heap.size + 1 ≤ w6.heap.size := by omega)
         (try have hx6_2 : w.heap.size + 2 ≤ w6.heap.size := by omega)
         (try (simp [Region.binds, Note.phi, cellsAre] at hd))
         revert hd
         (try simp only [putsFrom, Act.put, qA, qB, qC, Nat.zero_add, Nat.reduceAdd])
         generalize u 0 = u0
         generalize u 1 = u1
         generalize u 2 = u2
         generalize u 3 = u3
         generalize u 4 = u4
         ((try simp only [forall_exists_index, and_imp]); intros)
         (try subst u0)
         (try subst u1)
         (try subst u2)
         (try subst u3)
         (try subst u4)
         clear u
         go_wp2_with (first | (go_at_call 119; (with_reducible refine (HJ _).mono ?_); rintro e wy ⟨rfl, hby⟩))
         exact ⟨rfl, by exact below_auto, rfl⟩
        ·intro u w6 hb6 hd
         obtain ⟨hc6, hf6⟩ := bcell hb6
         (try simp only [qD, qE, qF] at hc6 hf6)
         have hz6 := hb6.size
         (try simp at hz6)
         (try have hy6_0 : w.heap.size < w6.heap.size := by omega)
         (try have hy6_1 : w.heap.size + 1 < w6.heap.size := by omega)
         (try have hy6_2 : w.heap.size + 2 < w6.heap.size := by omega)
         (try have hy6_3 : w.heap.size + 3 < w6.heap.size := by omega)
         (try have hx6_0 : w.heap.size ≤ w6.heap.size := by omega)
         (try have hx6_1 : w.heap.size + 1 ≤ w6.heap.size := by omega)
         (try have hx6_2 : w.heap.size + 2 ≤ w6.heap.size := by omega)
         (try (simp [Region.binds, Note.phi, cellsAre] at hd))
         revert hd
         (try simp only [putsFrom, Act.put, qA, qB, qC, Nat.zero_add, Nat.reduceAdd])
         generalize u 0 = u0
         generalize u 1 = u1
         generalize u 2 = u2
         generalize u 3 = u3
         generalize u 4 = u4
         generalize u 5 = u5
         ((try simp only [forall_exists_index, and_imp]); intros)
         (try subst u0)
         (try subst u1)
         (try subst u2)
         (try subst u3)
         (try subst u4)
         (try subst u5)
         clear u
         go_wp2_with (first | (go_at_call 119; (with_reducible refine (HJ _).mono ?_); rintro e wy ⟨rfl, hby⟩))
         exact ⟨rfl, by exact below_auto, rfl⟩
        ·intro u w6 hb6 hd
         obtain ⟨hc6, hf6⟩ := bcell hb6
         (try simp only [qD, qE, qF] at hc6 hf6)
         have hz6 := hb6.size
         (try simp at hz6)
         (try have hy6_0 : w.heap.size < w6.heap.size := by omega)
         (try have hy6_1 : w.heap.size + 1 < w6.heap.size := by omega)
         (try have hy6_2 : w.heap.size + 2 < w6.heap.size := by omega)
         (try have hy6_3 : w.heap.size + 3 < w6.heap.size := by omega)
         (try have hx6_0 : w.heap.size ≤ w6.heap.size := by omega)
         (try have hx6_1 : w.heap.size + 1 ≤ w6.heap.size := by omega)
         (try have hx6_2 : w.heap.size + 2 ≤ w6.heap.size := by omega)
         (try (simp [Region.binds, Note.phi, cellsAre] at hd))
         revert hd
         (try simp only [putsFrom, Act.put, qA, qB, qC, Nat.zero_add, Nat.reduceAdd])
         generalize u 0 = u0
         generalize u 1 = u1
         generalize u 2 = u2
         generalize u 3 = u3
         generalize u 4 = u4
         generalize u 5 = u5
         generalize u 6 = u6
         ((try simp only [forall_exists_index, and_imp]); intros)
         (try subst u0)
         (try subst u1)
         (try subst u2)
         (try subst u3)
         (try subst u4)
         (try subst u5)
         (try subst u6)
         clear u
         go_wp2_with (first | (go_at_call 119; (with_reducible refine (HJ _).mono ?_); rintro e wy ⟨rfl, hby⟩))
         exact ⟨rfl, by exact below_auto, rfl⟩
        ·intro u w6 hb6 hd
         obtain ⟨hc6, hf6⟩ := bcell hb6
         (try simp only [qD, qE, qF] at hc6 hf6)
         have hz6 := hb6.size
         (try simp at hz6)
         (try have hy6_0 : w.heap.size < w6.heap.size := by omega)
         (try have hy6_1 : w.heap.size + 1 < w6.heap.size := by omega)
         (try have hy6_2 : w.heap.size + 2 < w6.heap.size := by omega)
         (try have hy6_3 : w.heap.size + 3 < w6.heap.size := by omega)
         (try have hx6_0 : w.heap.size ≤ w6.heap.size := by omega)
         (try have hx6_1 : w.heap.size + 1 ≤ w6.heap.size := by omega)
         (try have hx6_2 : w.heap.size + 2 ≤ w6.heap.size := by omega)
         (try (simp [Region.binds, Note.phi, cellsAre] at hd))
         revert hd
         (try simp only [putsFrom, Act.put, qA, qB, qC, Nat.zero_add, Nat.reduceAdd])
         generalize u 0 = u0
         generalize u 1 = u1
         generalize u 2 = u2
         generalize u 3 = u3
         generalize u 4 = u4
         generalize u 5 = u5
         generalize u 6 = u6
         generalize u 7 = u7
         ((try simp only [forall_exists_index, and_imp]); intros)
         (try subst u0)
         (try subst u1)
         (try subst u2)
         (try subst u3)
         (try subst u4)
         (try subst u5)
         (try subst u6)
         (try subst u7)
         clear u
         go_wp2_with (first | (go_at_call 119; (with_reducible refine (HJ _).mono ?_); rintro e wy ⟨rfl, hby⟩))
         exact ⟨rfl, by exact below_auto, rfl⟩
        ·intro u w6 hb6 hd
         obtain ⟨hc6, hf6⟩ := bcell hb6
         (try simp only [qD, qE, qF] at hc6 hf6)
         have hz6 := hb6.size
         (try simp at hz6)
         (try have hy6_0 : w.heap.size < w6.heap.size := by omega)
         (try have hy6_1 : w.heap.size + 1 < w6.heap.size := by omega)
         (try have hy6_2 : w.heap.size + 2 < w6.heap.size := by omega)
         (try have hy6_3 : w.heap.size + 3 < w6.heap.size := by omega)
         (try have hx6_0 : w.heap.size ≤ w6.heap.size := by omega)
         (try have hx6_1 : w.heap.size + 1 ≤ w6.heap.size := by omega)
         (try have hx6_2 : w.heap.size + 2 ≤ w6.heap.size := by omega)
         (try (simp [Region.binds, Note.phi, cellsAre] at hd))
         revert hd
         (try simp only [putsFrom, Act.put, qA, qB, qC, Nat.zero_add, Nat.reduceAdd])
         generalize u 0 = u0
         generalize u 1 = u1
         generalize u 2 = u2
         generalize u 3 = u3
         generalize u 4 = u4
         generalize u 5 = u5
         generalize u 6 = u6
         generalize u 7 = u7
         generalize u 8 = u8
         ((try simp only [forall_exists_index, and_imp]); intros)
         (try subst u0)
         (try subst u1)
         (try subst u2)
         (try subst u3)
         (try subst u4)
         (try subst u5)
         (try subst u6)
         (try subst u7)
         (try subst u8)
         clear u
         go_wp2_with (first | (go_at_call 119; (with_reducible refine (HJ _).mono ?_); rintro e wy ⟨rfl, hby⟩))
         exact ⟨rfl, by exact below_auto, rfl⟩
        ·intro u w6 hb6 hd
         obtain ⟨hc6, hf6⟩ := bcell hb6
         (try simp only [qD, qE, qF] at hc6 hf6)
         have hz6 := hb6.size
         (try simp at hz6)
         (try have hy6_0 : w.heap.size < w6.heap.size := by omega)
         (try have hy6_1 : w.heap.size + 1 < w6.heap.size := by omega)
         (try have hy6_2 : w.heap.size + 2 < w6.heap.size := by omega)
         (try have hy6_3 : w.heap.size + 3 < w6.heap.size := by omega)
         (try have hx6_0 : w.heap.size ≤ w6.heap.size := by omega)
         (try have hx6_1 : w.heap.size + 1 ≤ w6.heap.size := by omega)
         (try have hx6_2 : w.heap.size + 2 ≤ w6.heap.size := by omega)
         (try (simp [Region.binds, Note.phi, cellsAre] at hd))
         revert hd
         (try simp only [putsFrom, Act.put, qA, qB, qC, Nat.zero_add, Nat.reduceAdd])
         generalize u 0 = u0
         generalize u 1 = u1
         generalize u 2 = u2
         generalize u 3 = u3
         generalize u 4 = u4
         generalize u 5 = u5
         generalize u 6 = u6
         generalize u 7 = u7
         generalize u 8 = u8
         generalize u 9 = u9
         ((try simp only [forall_exists_index, and_imp]); intros)
         (try subst u0)
         (try subst u1)
         (try subst u2)
         (try subst u3)
         (try subst u4)
         (try subst u5)
         (try subst u6)
         (try subst u7)
         (try subst u8)
         (try subst u9)
         clear u
         go_wp2_with (first | (go_at_call 119; (with_reducible refine (HJ _).mono ?_); rintro e wy ⟨rfl, hby⟩))
         exact ⟨rfl, by exact below_auto, rfl⟩
        ·intro u w6 hb6 hd
         obtain ⟨hc6, hf6⟩ := bcell hb6
         (try simp only [qD, qE, qF] at hc6 hf6)
         have hz6 := hb6.size
         (try simp at hz6)
         (try have hy6_0 : w.heap.size < w6.heap.size := by omega)
         (try have hy6_1 : w.heap.size + 1 < w6.heap.size := by omega)
         (try have hy6_2 : w.heap.size + 2 < w6.heap.size := by omega)
         (try have hy6_3 : w.heap.size + 3 < w6.heap.size := by omega)
         (try have hx6_0 : w.heap.size ≤ w6.heap.size := by omega)
         (try have hx6_1 : w.heap.size + 1 ≤ w6.heap.size := by omega)
         (try have hx6_2 : w.heap.size + 2 ≤ w6.heap.size := by omega)
         (try (simp [Region.binds, Note.phi, cellsAre] at hd))
         revert hd
         (try simp only [putsFrom, Act.put, qA, qB, qC, Nat.zero_add, Nat.reduceAdd])
         generalize u 0 = u0
         generalize u 1 = u1
         generalize u 2 = u2
         generalize u 3 = u3
         generalize u 4 = u4
         generalize u 5 = u5
         generalize u 6 = u6
         generalize u 7 = u7
         generalize u 8 = u8
         generalize u 9 = u9
         generalize u 10 = u10
         ((try simp only [forall_exists_index, and_imp]); intros)
         (try subst u0)
         (try subst u1)
         (try subst u2)
         (try subst u3)
         (try subst u4)
         (try subst u5)
         (try subst u6)
         (try subst u7)
         (try subst u8)
         (try subst u9)
         (try subst u10)
         clear u
         go_wp2_with (first | (go_at_call 119; (with_reducible refine (HJ _).mono ?_); rintro e wy ⟨rfl, hby⟩))
         exact ⟨rfl, by exact below_auto, w6.heap.size, rfl, Nat.le_refl _, by simp, by simp [cellsAre, go_sem]⟩
       intro u w6 hb6 hph hap
       obtain ⟨hc6, hf6⟩ := bcell hb6
       (try simp only [qD, qE, qF] at hc6 hf6)
       have hz6 := hb6.size
       (try simp at hz6)
       (try have hy6_0 : w.heap.size < w6.heap.size := by omega)
       (try have hy6_1 : w.heap.size + 1 < w6.heap.size := by omega)
       (try have hy6_2 : w.heap.size + 2 < w6.heap.size := by omega)
       (try have hy6_3 : w.heap.size + 3 < w6.heap.size := by omega)
       (try have hx6_0 : w.heap.size ≤ w6.heap.size := by omega)
       (try have hx6_1 : w.heap.size + 1 ≤ w6.heap.size := by omega)
       (try have hx6_2 : w.heap.size + 2 ≤ w6.heap.size := by omega)
       have hp0 := hph 0 (by simp)
       have hp1 := hph 1 (by simp)
       have hp2 := hph 2 (by simp)
       have hp3 := hph 3 (by simp)
       have hp4 := hph 4 (by simp)
       have hp5 := hph 5 (by simp)
       have hp6 := hph 6 (by simp)
       have hp7 := hph 7 (by simp)
       have hp8 := hph 8 (by simp)
       have hp9 := hph 9 (by simp)
       have hp10 := hph 10 (by simp)
       have hp11 := hph 11 (by simp)
       clear hph hap
       simp only [List.length_cons, List.length_nil, List.take_succ_cons, List.take_zero, List.drop_succ_cons, List.drop_zero, List.cons_append, List.nil_append, putsFrom, putsBut, Act.put, qA, qB, qC, Nat.zero_add, Nat.reduceAdd, Nat.reduceEqDiff, if_true, if_false, reduceIte, Nat.zero_ne_one, Nat.one_ne_zero]
       generalize u 0 = u0 at *
       generalize u 1 = u1 at *
       generalize u 2 = u2 at *
       generalize u 3 = u3 at *
       generalize u 4 = u4 at *
       generalize u 5 = u5 at *
       generalize u 6 = u6 at *
       generalize u 7 = u7 at *
       generalize u 8 = u8 at *
       generalize u 9 = u9 at *
       generalize u 10 = u10 at *
       generalize u 11 = u11 at *
       clear u
       cases hp0
       cases hp1
       cases hp2
       cases hp3
       cases hp4
       cases hp5
       cases hp6
       cases hp7
       cases hp8
       cases hp9
       cases hp10
       obtain ⟨B11, rfl, hl11, hg11, hs11⟩ := hp11
       (try simp only [cellsAre, and_true] at hs11)
       rotate_left
       intro u w6 hb6 hph hap
       obtain ⟨hc6, hf6⟩ := bcell hb6
       (try simp only [qD, qE, qF] at hc6 hf6)
       have hz6 := hb6.size
       (try simp at hz6)
       (try have hy6_0 : w.heap.size < w6.heap.size := by omega)
       (try have hy6_1 : w.heap.size + 1 < w6.heap.size := by omega)
       (try have hy6_2 : w.heap.size + 2 < w6.heap.size := by omega)
       (try have hy6_3 : w.heap.size + 3 < w6.heap.size := by omega)
       (try have hx6_0 : w.heap.size ≤ w6.heap.size := by omega)
       (try have hx6_1 : w.heap.size + 1 ≤ w6.heap.size := by omega)
       (try have hx6_2 : w.heap.size + 2 ≤ w6.heap.size := by omega)
       have hp0 := hph 0 (by simp) (by decide)
       have hp1 := hph 1 (by simp) (by decide)
       have hp2 := hph 2 (by simp) (by decide)
       have hp3 := hph 3 (by simp) (by decide)
       have hp4 := hph 4 (by simp) (by decide)
       have hp5 := hph 5 (by simp) (by decide)
       have hp6 := hph 6 (by simp) (by decide)
       have hp7 := hph 7 (by simp) (by decide)
       have hp8 := hph 8 (by simp) (by decide)
       have hp9 := hph 9 (by simp) (by decide)
       have hp11 := hph 11 (by simp) (by decide)
       clear hph hap
       simp only [List.length_cons, List.length_nil, List.take_succ_cons, List.take_zero, List.drop_succ_cons, List.drop_zero, List.cons_append, List.nil_append, putsFrom, putsBut, Act.put, qA, qB, qC, Nat.zero_add, Nat.reduceAdd, Nat.reduceEqDiff, if_true, if_false, reduceIte, Nat.zero_ne_one, Nat.one_ne_zero]
       generalize u 0 = u0 at *
       generalize u 1 = u1 at *
       generalize u 2 = u2 at *
       generalize u 3 = u3 at *
       generalize u 4 = u4 at *
       generalize u 5 = u5 at *
       generalize u 6 = u6 at *
       generalize u 7 = u7 at *
       generalize u 8 = u8 at *
       generalize u 9 = u9 at *
       generalize u 11 = u11 at *
       clear u
       cases hp0
       cases hp1
       cases hp2
       cases hp3
       cases hp4
       cases hp5
       cases hp6
       cases hp7
       cases hp8
       cases hp9
       obtain ⟨B11, rfl, hl11, hg11, hs11⟩ := hp11
       (try simp only [cellsAre, and_true] at hs11)
       rotate_left
       all_goals
        go_upto_region 16 with fail
        have hlB : w5.heap.size ≤ B11 := by simpa using hl11
        have hC6 : Below wr.heap.size wr w6 := by (repeat (first | with_reducible exact Below.refl _ _ | ((with_reducible refine Below.alloc1 ?_ ?_ _); (· first | omega | (simp; done) | (simp; omega))) | (with_reducible refine Below.drew ?_) | (with_reducible refine below_drewN' ?_ _) | ((with_reducible refine Below.setCell1 ?_ ?_ _); (· first | omega | (simp; done) | (simp; omega))) | ((with_reducible refine Below.after (by assumption) ?_ ?_); (· first | omega | (simp; done) | (simp; omega))))); exact hC5
        generalize hW7 : World.setCell _ _ _ = w7
        have hC7 : Below wr.heap.size wr w7 := by rw [← hW7]; exact below_auto
        have hB7 : Below w1.heap.size w1 w7 := hb2.trans (hC7.mono hz2)
        have hz7 := hC7.size
        have k0 := congrArg (fun W => W.cell? ⟨B11, 0, none⟩) hW7.symm
        have k1 := congrArg (fun W => W.cell? ⟨B11, 1, none⟩) hW7.symm
        have k2 := congrArg (fun W => W.cell? ⟨B11, 2, none⟩) hW7.symm
        have k3 := congrArg (fun W => W.cell? ⟨B11, 3, none⟩) hW7.symm
        clear hW7
        simp [go_sem, *] at k0 k1 k2 k3
        have y0 := (hC7.cell (p := ⟨g', _, none⟩) hgl).trans e0
        have y1 := (hC7.cell (p := ⟨g', _, none⟩) hgl).trans e1
        have y2 := (hC7.cell (p := ⟨g', _, none⟩) hgl).trans e2
        have y3 := (hC7.cell (p := ⟨g', _, none⟩) hgl).trans e3
        have yf : ∀ o, w7.frozen? ⟨g', o, none⟩ = false := fun o => (hC7.frozen (p := ⟨g', o, none⟩) hgl).trans (f' o)
        have hown7 := HO2.out.kept (grown_of_below hC7) (by cases (Value.slice (some ⟨g', 0, none⟩) (q + 1) cv).ownBlock <;> simp)
        have hset := own_set4 z hq hown7
        have hBs := hB7.grown hset.2 hB7.size (fun k hk => by cases hk; exact hbg)
        have HSet := hid hset
        have HBs := hid hBs
        clear hset hBs hown7 hc6 hf6 hs11 f'
        go_wp2_with fail
        go_roundw
        case rel => exact ⟨j + 1, some ⟨g', 0, none⟩, cv, by omega, by go_num, by rw [HR.out]; simp [hq], hid (by rw [HR.out, List.length_append, hq]; exact HSet.out.1), HBs.out⟩
        case measure => simp [intOf]; omega
      ·obtain ⟨hz', _⟩ := (HJL w).1 rfl
       have HJ := fun W => ((HJL W).1 rfl).2
       clear HJL hbq hyx
       rw [hz'] at hstep
       have HR : Hid (joinAll [] (G.take (j + 1)) = (p ++ [y]) ++ [x]) := hid (by rw [hstep, List.append_assoc]; rfl)
       clear hz' hstep
       go_upto_region 14 with fail
       (generalize hW5 : World.alloc _ _ = w5; have hB5 : Below w.heap.size w w5 := (by rw [← hW5]; exact below_auto); have hC5 : Below wr.heap.size wr w5 := (by rw [← hW5]; exact below_auto); have hS5 : wr.heap.size < w5.heap.size := (by rw [← hW5]; first | (simp [go_sem]; done) | (simp [go_sem]; omega)); have cx5_0 := congrArg (fun W => W.cell? ⟨wr.heap.size, 0, none⟩) hW5.symm; have fx5_0 := congrArg (fun W => W.frozen? ⟨wr.heap.size, 0, none⟩) hW5.symm; have cx5_1 := congrArg (fun W => W.cell? ⟨wr.heap.size, 1, none⟩) hW5.symm; have fx5_1 := congrArg (fun W => W.frozen? ⟨wr.heap.size, 1, none⟩) hW5.symm; have cx5_2 := congrArg (fun W => W.cell? ⟨wr.heap.size, 2, none⟩) hW5.symm; have fx5_2 := congrArg (fun W => W.frozen? ⟨wr.heap.size, 2, none⟩) hW5.symm; have cx5_3 := congrArg (fun W => W.cell? ⟨wr.heap.size, 3, none⟩) hW5.symm; have fx5_3 := congrArg (fun W => W.frozen? ⟨wr.heap.size, 3, none⟩) hW5.symm; clear hW5; simp [go_sem, *] at cx5_0; simp [go_sem, *] at fx5_0; simp [go_sem, *] at cx5_1; simp [go_sem, *] at fx5_1; simp [go_sem, *] at cx5_2; simp [go_sem, *] at fx5_2; simp [go_sem, *] at cx5_3; simp [go_sem, *] at fx5_3)
       have hgl5 : g' < w5.heap.size := by omega
       have x0 := (hC5.cell (p := ⟨g', _, none⟩) hgl).trans e0
       have x1 := (hC5.cell (p := ⟨g', _, none⟩) hgl).trans e1
       have x2 := (hC5.cell (p := ⟨g', _, none⟩) hgl).trans e2
       have x3 := (hC5.cell (p := ⟨g', _, none⟩) hgl).trans e3
       have hb25 := hb2.trans (hC5.mono hz2)
       have hz5 := hb25.size
       refine wp_region_notes_late [Note.val (.slice (some ⟨g', 0, none⟩) (q + 1) cv), Note.val (.slice (some ⟨g', 0, none⟩) (q + 1) cv), Note.val (.int .i64 ((q : Int) + 1)), Note.val (.int .i64 q), Note.val (.pointer (some ⟨g', q * 4, none⟩)), Note.val (.agg #[.float .f64 y.lo.bits, .float .f64 y.hi.bits, .bool false, .bool false]), Note.val (.agg #[.float .f64 x.lo.bits, .float .f64 x.hi.bits, .bool false, .bool false]), Note.val (.tuple #[.agg #[.float .f64 0, .float .f64 0, .bool true, .bool true], .bool false]), Note.val (.tuple #[.agg #[.float .f64 0, .float .f64 0, .bool true, .bool true], .bool false]), Note.val (.agg #[.float .f64 0, .float .f64 0, .bool true, .bool true]), Note.val (.bool false), Note.ptr [.float .f64 0, .float .f64 0, .bool false, .bool false]] 10 rfl (by kernel_rfl) (by kernel_rfl) ?_ ?_ ?_
       ·simp only [List.length_cons, List.length_nil, Nat.reduceAdd, List.take_succ_cons, List.take_zero, StepsN, List.nil_append, List.cons_append]
        refine ⟨?_, ?_, ?_, ?_, ?_, ?_, ?_, ?_, ?_, ?_, ?_, ?_, trivial⟩
        ·intro u w6 hb6 hd
         obtain ⟨hc6, hf6⟩ := bcell hb6
         (try simp only [qD, qE, qF] at hc6 hf6)
         have hz6 := hb6.size
         (try simp at hz6)
         (try have hy6_0 : w.heap.size < w6.heap.size := by omega)
         (try have hy6_1 : w.heap.size + 1 < w6.heap.size := by omega)
         (try have hy6_2 : w.heap.size + 2 < w6.heap.size := by omega)
         (try have hy6_3 : w.heap.size + 3 < w6.heap.size := by omega)
         (try have hx6_0 : w.heap.size ≤ w6.heap.size := by omega)
         (try have hx6_1 : w.heap.size + 1 ≤ w6.heap.size := by omega)
         (try have hx6_2 : w.heap.size + 2 ≤ w6.heap.size := by omega)
         (try (simp [Region.binds, Note.phi, cellsAre] at hd))
         revert hd
         (try simp only [putsFrom, Act.put, qA, qB, qC, Nat.zero_add, Nat.reduceAdd])
         ((try simp only [forall_exists_index, and_imp]); intros)
         clear u
         go_wp2_with (first | (go_at_call 119; (with_reducible refine (HJ _).mono ?_); rintro e wy ⟨rfl, hby⟩))
         exact ⟨rfl, by exact below_auto, rfl⟩
        ·intro u w6 hb6 hd
         obtain ⟨hc6, hf6⟩ := bcell hb6
         (try simp only [qD, qE, qF] at hc6 hf6)
         have hz6 := hb6.size
         (try simp at hz6)
         (try have hy6_0 : w.heap.size < w6.heap.size := by omega)
         (try have hy6_1 : w.heap.size + 1 < w6.heap.size := by omega)
         (try have hy6_2 : w.heap.size + 2 < w6.heap.size := by omega)
         (try have hy6_3 : w.heap.size + 3 < w6.heap.size := by omega)
         (try have hx6_0 : w.heap.size ≤ w6.heap.size := by omega)
         (try have hx6_1 : w.heap.size + 1 ≤ w6.heap.size := by omega)
         (try have hx6_2 : w.heap.size + 2 ≤ w6.heap.size := by omega)
         (try (simp [Region.binds, Note.phi, cellsAre] at hd))
         revert hd
         (try simp only [putsFrom, Act.put, qA, qB, qC, Nat.zero_add, Nat.reduceAdd])
         generalize u 0 = u0
         ((try simp only [forall_exists_index, and_imp]); intros)
         (try subst u0)
         clear u
         go_wp2_with (first | (go_at_call 119; (with_reducible refine (HJ _).mono ?_); rintro e wy ⟨rfl, hby⟩))
         exact ⟨rfl, by exact below_auto, rfl⟩
        ·intro u w6 hb6 hd
         obtain ⟨hc6, hf6⟩ := bcell hb6
         (try simp only [qD, qE, qF] at hc6 hf6)
         have hz6 := hb6.size
         (try simp at hz6)
         (try have hy6_0 : w.heap.size < w6.heap.size := by omega)
         (try have hy6_1 : w.heap.size + 1 < w6.heap.size := by omega)
         (try have hy6_2 : w.heap.size + 2 < w6.heap.size := by omega)
         (try have hy6_3 : w.heap.size + 3 < w6.heap.size := by omega)
         (try have hx6_0 : w.heap.size ≤ w6.heap.size := by omega)
         (try have hx6_1 : w.heap.size + 1 ≤ w6.heap.size := by omega)
         (try have hx6_2 : w.heap.size + 2 ≤ w6.heap.size := by omega)
         (try (simp [Region.binds, Note.phi, cellsAre] at hd))
         revert hd
         (try simp only [putsFrom, Act.put, qA, qB, qC, Nat.zero_add, Nat.reduceAdd])
         generalize u 0 = u0
         generalize u 1 = u1
         ((try simp only [forall_exists_index, and_imp]); intros)
         (try subst u0)
         (try subst u1)
         clear u
         go_wp2_with (first | (go_at_call 119; (with_reducible refine (HJ _).mono ?_); rintro e wy ⟨rfl, hby⟩))
         exact ⟨rfl, by exact below_auto, rfl⟩
        ·intro u w6 hb6 hd
         obtain ⟨hc6, hf6⟩ := bcell hb6
         (try simp only [qD, qE, qF] at hc6 hf6)
         have hz6 := hb6.size
         (try simp at hz6)
         (try have hy6_0 : w.heap.size < w6.heap.size := by omega)
         (try have hy6_1 : w.heap.size + 1 < w6.heap.size := by omega)
         (try have hy6_2 : w.heap.size + 2 < w6.heap.size := by omega)
         (try have hy6_3 : w.heap.size + 3 < w6.heap.size := by omega)
         (try have hx6_0 : w.heap.size ≤ w6.heap.size := by omega)
         (try have hx6_1 : w.heap.size + 1 ≤ w6.heap.size := by omega)
         (try have hx6_2 : w.heap.size + 2 ≤ w6.heap.size := by omega)
         (try (simp [Region.binds, Note.phi, cellsAre] at hd))
         revert hd
         (try simp only [putsFrom, Act.put, qA, qB, qC, Nat.zero_add, Nat.reduceAdd])
         generalize u 0 = u0
         generalize u 1 = u1
         generalize u 2 = u2
         ((try simp only [forall_exists_index, and_imp]); intros)
         (try subst u0)
         (try subst u1)
         (try subst u2)
         clear u
         go_wp2_with (first | (go_at_call 119; (with_reducible refine (HJ _).mono ?_); rintro e wy ⟨rfl, hby⟩))
         exact ⟨rfl, by exact below_auto, rfl⟩
        ·intro u w6 hb6 hd
         obtain ⟨hc6, hf6⟩ := bcell hb6
         (try simp only [qD, qE, qF] at hc6 hf6)
         have hz6 := hb6.size
         (try simp at hz6)
         (try have hy6_0 : w.heap.size < w6.heap.size := by omega)
         (try have hy6_1 : w.heap.size + 1 < w6.heap.size := by omega)
         (try have hy6_2 : w.heap.size + 2 < w6.heap.size := by omega)
         (try have hy6_3 : w.heap.size + 3 < w6.heap.size := by omega)
         (try have hx6_0 : w.heap.size ≤ w6.heap.size := by omega)
         (try have hx6_1 : w.heap.size + 1 ≤ w6.heap.size := by omega)
         (try have hx6_2 : w.heap.size + 2 ≤ w6.heap.size := by omega)
         (try (simp [Region.binds, Note.phi, cellsAre] at hd))
         revert hd
         (try simp only [putsFrom, Act.put, qA, qB, qC, Nat.zero_add, Nat.reduceAdd])
         generalize u 0 = u0
         generalize u 1 = u1
         generalize u 2 = u2
         generalize u 3 = u3
         ((try simp only [forall_exists_index, and_imp]); intros)
         (try subst u0)
         (try subst u1)
         (try subst u2)
         (try subst u3)
         clear u
         go_wp2_with (first | (go_at_call 119; (with_reducible refine (HJ _).mono ?_); rintro e wy ⟨rfl, hby⟩))
         exact ⟨rfl, by exact below_auto, rfl⟩
        ·intro u w6 hb6 hd
         obtain ⟨hc6, hf6⟩ := bcell hb6
         (try simp only [qD, qE, qF] at hc6 hf6)
         have hz6 := hb6.size
         (try simp at hz6)
         (try have hy6_0 : w.heap.size < w6.heap.size := by omega)
         (try have hy6_1 : w.heap.size + 1 < w6.heap.size := by omega)
         (try have hy6_2 : w.heap.size + 2 < w6.heap.size := by omega)
         (try have hy6_3 : w.heap.size + 3 < w6.heap.size := by omega)
         (try have hx6_0 : w.heap.size ≤ w6.heap.size := by omega)
         (try have hx6_1 : w.heap.size + 1 ≤ w6.heap.size := by omega)
         (try have hx6_2 : w.heap.size + 2 ≤ w6.heap.size := by omega)
         (try (simp [Region.binds, Note.phi, cellsAre] at hd))
         revert hd
         (try simp only [putsFrom, Act.put, qA, qB, qC, Nat.zero_add, Nat.reduceAdd])
         generalize u 0 = u0
         generalize u 1 = u1
         generalize u 2 = u2
         generalize u 3 = u3
         generalize u 4 = u4
         ((try simp only [forall_exists_index, and_imp]); intros)
         (try subst u0)
         (try subst u1)
         (try subst u2)
         (try subst u3)
         (try subst u4)
         clear u
         go_wp2_with (first | (go_at_call 119; (with_reducible refine (HJ _).mono ?_); rintro e wy ⟨rfl, hby⟩))
         exact ⟨rfl, by exact below_auto, rfl⟩
        ·intro u w6 hb6 hd
         obtain ⟨hc6, hf6⟩ := bcell hb6
         (try simp only [qD, qE, qF] at hc6 hf6)
         have hz6 := hb6.size
         (try simp at hz6)
         (try have hy6_0 : w.heap.size < w6.heap.size := by omega)
         (try have hy6_1 : w.heap.size + 1 < w6.heap.size := by omega)
         (try have hy6_2 : w.heap.size + 2 < w6.heap.size := by omega)
         (try have hy6_3 : w.heap.size + 3 < w6.heap.size := by omega)
         (try have hx6_0 : w.heap.size ≤ w6.heap.size := by omega)
         (try have hx6_1 : w.heap.size + 1 ≤ w6.heap.size := by omega)
         (try have hx6_2 : w.heap.size + 2 ≤ w6.heap.size := by omega)
         (try (simp [Region.binds, Note.phi, cellsAre] at hd))
         revert hd
         (try simp only [putsFrom, Act.put, qA, qB, qC, Nat.zero_add, Nat.reduceAdd])
         generalize u 0 = u0
         generalize u 1 = u1
         generalize u 2 = u2
         generalize u 3 = u3
         generalize u 4 = u4
         generalize u 5 = u5
         ((try simp only [forall_exists_index, and_imp]); intros)
         (try subst u0)
         (try subst u1)
         (try subst u2)
         (try subst u3)
         (try subst u4)
         (try subst u5)
         clear u
         go_wp2_with (first | (go_at_call 119; (with_reducible refine (HJ _).mono ?_); rintro e wy ⟨rfl, hby⟩))
         exact ⟨rfl, by exact below_auto, rfl⟩
        ·intro u w6 hb6 hd
         obtain ⟨hc6, hf6⟩ := bcell hb6
         (try simp only [qD, qE, qF] at hc6 hf6)
         have hz6 := hb6.size
         (try simp at hz6)
         (try have hy6_0 : w.heap.size < w6.heap.size := by omega)
         (try have hy6_1 : w.heap.size + 1 < w6.heap.size := by omega)
         (try have hy6_2 : w.heap.size + 2 < w6.heap.size := by omega)
         (try have hy6_3 : w.heap.size + 3 < w6.heap.size := by omega)
         (try have hx6_0 : w.heap.size ≤ w6.heap.size := by omega)
         (try have hx6_1 : w.heap.size + 1 ≤ w6.heap.size := by omega)
         (try have hx6_2 : w.heap.size + 2 ≤ w6.heap.size := by omega)
         (try (simp [Region.binds, Note.phi, cellsAre] at hd))
         revert hd
         (try simp only [putsFrom, Act.put, qA, qB, qC, Nat.zero_add, Nat.reduceAdd])
         generalize u 0 = u0
         generalize u 1 = u1
         generalize u 2 = u2
         generalize u 3 = u3
         generalize u 4 = u4
         generalize u 5 = u5
         generalize u 6 = u6
         ((try simp only [forall_exists_index, and_imp]); intros)
         (try subst u0)
         (try subst u1)
         (try subst u2)
         (try subst u3)
         (try subst u4)
         (try subst u5)
         (try subst u6)
         clear u
         go_wp2_with (first | (go_at_call 119; (with_reducible refine (HJ _).mono ?_); rintro e wy ⟨rfl, hby⟩))
         exact ⟨rfl, by exact below_auto, rfl⟩
        ·intro u w6 hb6 hd
         obtain ⟨hc6, hf6⟩ := bcell hb6
         (try simp only [qD, qE, qF] at hc6 hf6)
         have hz6 := hb6.size
         (try simp at hz6)
         (try have hy6_0 : w.heap.size < w6.heap.size := by omega)
         (try have hy6_1 : w.heap.size + 1 < w6.heap.size := by omega)
         (try have hy6_2 : w.heap.size + 2 < w6.heap.size := by omega)
         (try have hy6_3 : w.heap.size + 3 < w6.heap.size := by omega)
         (try have hx6_0 : w.heap.size ≤ w6.heap.size := by omega)
         (try have hx6_1 : w.heap.size + 1 ≤ w6.heap.size := by omega)
         (try have hx6_2 : w.heap.size + 2 ≤ w6.heap.size := by omega)
         (try (simp [Region.binds, Note.phi, cellsAre] at hd))
         revert hd
         (try simp only [putsFrom, Act.put, qA, qB, qC, Nat.zero_add, Nat.reduceAdd])
         generalize u 0 = u0
         generalize u 1 = u1
         generalize u 2 = u2
         generalize u 3 = u3
         generalize u 4 = u4
         generalize u 5 = u5
         generalize u 6 = u6
         generalize u 7 = u7
         ((try simp only [forall_exists_index, and_imp]); intros)
         (try subst u0)
         (try subst u1)
         (try subst u2)
         (try subst u3)
         (try subst u4)
         (try subst u5)
         (try subst u6)
         (try subst u7)
         clear u
         go_wp2_with (first | (go_at_call 119; (with_reducible refine (HJ _).mono ?_); rintro e wy ⟨rfl, hby⟩))
         exact ⟨rfl, by exact below_auto, rfl⟩
        ·intro u w6 hb6 hd
         obtain ⟨hc6, hf6⟩ := bcell hb6
         (try simp only [qD, qE, qF] at hc6 hf6)
         have hz6 := hb6.size
         (try simp at hz6)
         (try have hy6_0 : w.heap.size < w6.heap.size := by omega)
         (try have hy6_1 : w.heap.size + 1 < w6.heap.size := by omega)
         (try have hy6_2 : w.heap.size + 2 < w6.heap.size := by omega)
         (try have hy6_3 : w.heap.size + 3 < w6.heap.size := by omega)
         (try have hx6_0 : w.heap.size ≤ w6.heap.size := by omega)
         (try have hx6_1 : w.heap.size + 1 ≤ w6.heap.size := by omega)
         (try have hx6_2 : w.heap.size + 2 ≤ w6.heap.size := by omega)
         (try (simp [Region.binds, Note.phi, cellsAre] at hd))
         revert hd
         (try simp only [putsFrom, Act.put, qA, qB, qC, Nat.zero_add, Nat.reduceAdd])
         generalize u 0 = u0
         generalize u 1 = u1
         generalize u 2 = u2
         generalize u 3 = u3
         generalize u 4 = u4
         generalize u 5 = u5
         generalize u 6 = u6
         generalize u 7 = u7
         generalize u 8 = u8
         ((try simp only [forall_exists_index, and_imp]); intros)
         (try subst u0)
         (try subst u1)
         (try subst u2)
         (try subst u3)
         (try subst u4)
         (try subst u5)
         (try subst u6)
         (try subst u7)
         (try subst u8)
         clear u
         go_wp2_with (first | (go_at_call 119; (with_reducible refine (HJ _).mono ?_); rintro e wy ⟨rfl, hby⟩))
         exact ⟨rfl, by exact below_auto, rfl⟩
        ·intro u w6 hb6 hd
         obtain ⟨hc6, hf6⟩ := bcell hb6
         (try simp only [qD, qE, qF] at hc6 hf6)
         have hz6 := hb6.size
         (try simp at hz6)
         (try have hy6_0 : w.heap.size < w6.heap.size := by omega)
         (try have hy6_1 : w.heap.size + 1 < w6.heap.size := by omega)
         (try have hy6_2 : w.heap.size + 2 < w6.heap.size := by omega)
         (try have hy6_3 : w.heap.size + 3 < w6.heap.size := by omega)
         (try have hx6_0 : w.heap.size ≤ w6.heap.size := by omega)
         (try have hx6_1 : w.heap.size + 1 ≤ w6.heap.size := by omega)
         (try have hx6_2 : w.heap.size + 2 ≤ w6.heap.size := by omega)
         (try (simp [Region.binds, Note.phi, cellsAre] at hd))
         revert hd
         (try simp only [putsFrom, Act.put, qA, qB, qC, Nat.zero_add, Nat.reduceAdd])
         generalize u 0 = u0
         generalize u 1 = u1
         generalize u 2 = u2
         generalize u 3 = u3
         generalize u 4 = u4
         generalize u 5 = u5
         generalize u 6 = u6
         generalize u 7 = u7
         generalize u 8 = u8
         generalize u 9 = u9
         ((try simp only [forall_exists_index, and_imp]); intros)
         (try subst u0)
         (try subst u1)
         (try subst u2)
         (try subst u3)
         (try subst u4)
         (try subst u5)
         (try subst u6)
         (try subst u7)
         (try subst u8)
         (try subst u9)
         clear u
         go_wp2_with (first | (go_at_call 119; (with_reducible refine (HJ _).mono ?_); rintro e wy ⟨rfl, hby⟩))
         exact ⟨rfl, by exact below_auto, rfl⟩
        ·intro u w6 hb6 hd
         obtain ⟨hc6, hf6⟩ := bcell hb6
         (try simp only [qD, qE, qF] at hc6 hf6)
         have hz6 := hb6.size
         (try simp at hz6)
         (try have hy6_0 : w.heap.size < w6.heap.size := by omega)
         (try have hy6_1 : w.heap.size + 1 < w6.heap.size := by omega)
         (try have hy6_2 : w.heap.size + 2 < w6.heap.size := by omega)
         (try have hy6_3 : w.heap.size + 3 < w6.heap.size := by omega)
         (try have hx6_0 : w.heap.size ≤ w6.heap.size := by omega)
         (try have hx6_1 : w.heap.size + 1 ≤ w6.heap.size := by omega)
         (try have hx6_2 : w.heap.size + 2 ≤ w6.heap.size := by omega)
         (try (simp [Region.binds, Note.phi, cellsAre] at hd))
         revert hd
         (try simp only [putsFrom, Act.put, qA, qB, qC, Nat.zero_add, Nat.reduceAdd])
         generalize u 0 = u0
         generalize u 1 = u1
         generalize u 2 = u2
         generalize u 3 = u3
         generalize u 4 = u4
         generalize u 5 = u5
         generalize u 6 = u6
         generalize u 7 = u7
         generalize u 8 = u8
         generalize u 9 = u9
         generalize u 10 = u10
         ((try simp only [forall_exists_index, and_imp]); intros)
         (try subst u0)
         (try subst u1)
         (try subst u2)
         (try subst u3)
         (try subst u4)
         (try subst u5)
         (try subst u6)
         (try subst u7)
         (try subst u8)
         (try subst u9)
         (try subst u10)
         clear u
         go_wp2_with (first | (go_at_call 119; (with_reducible refine (HJ _).mono ?_); rintro e wy ⟨rfl, hby⟩))
         exact ⟨rfl, by exact below_auto, w6.heap.size, rfl, Nat.le_refl _, by simp, by simp [cellsAre, go_sem]⟩
       intro u w6 hb6 hph hap
       obtain ⟨hc6, hf6⟩ := bcell hb6
       (try simp only [qD, qE, qF] at hc6 hf6)
       have hz6 := hb6.size
       (try simp at hz6)
       (try have hy6_0 : w.heap.size < w6.heap.size := by omega)
       (try have hy6_1 : w.heap.size + 1 < w6.heap.size := by omega)
       (try have hy6_2 : w.heap.size + 2 < w6.heap.size := by omega)
       (try have hy6_3 : w.heap.size + 3 < w6.heap.size := by omega)
       (try have hx6_0 : w.heap.size ≤ w6.heap.size := by omega)
       (try have hx6_1 : w.heap.size + 1 ≤ w6.heap.size := by omega)
       (try have hx6_2 : w.heap.size + 2 ≤ w6.heap.size := by omega)
       have hp0 := hph 0 (by simp)
       have hp1 := hph 1 (by simp)
       have hp2 := hph 2 (by simp)
       have hp3 := hph 3 (by simp)
       have hp4 := hph 4 (by simp)
       have hp5 := hph 5 (by simp)
       have hp6 := hph 6 (by simp)
       have hp7 := hph 7 (by simp)
       have hp8 := hph 8 (by simp)
       have hp9 := hph 9 (by simp)
       have hp10 := hph 10 (by simp)
       have hp11 := hph 11 (by simp)
       clear hph hap
       simp only [List.length_cons, List.length_nil, List.take_succ_cons, List.take_zero, List.drop_succ_cons, List.drop_zero, List.cons_append, List.nil_append, putsFrom, putsBut, Act.put, qA, qB, qC, Nat.zero_add, Nat.reduceAdd, Nat.reduceEqDiff, if_true, if_false, reduceIte, Nat.zero_ne_one, Nat.one_ne_zero]
       generalize u 0 = u0 at *
       generalize u 1 = u1 at *
       generalize u 2 = u2 at *
       generalize u 3 = u3 at *
       generalize u 4 = u4 at *
       generalize u 5 = u5 at *
       generalize u 6 = u6 at *
       generalize u 7 = u7 at *
       generalize u 8 = u8 at *
       generalize u 9 = u9 at *
       generalize u 10 = u10 at *
       generalize u 11 = u11 at *
       clear u
       cases hp0
       cases hp1
       cases hp2
       cases hp3
       cases hp4
       cases hp5
       cases hp6
       cases hp7
       cases hp8
       cases hp9
       cases hp10
       obtain ⟨B11, rfl, hl11, hg11, hs11⟩ := hp11
       (try simp only [cellsAre, and_true] at hs11)
       rotate_left
       intro u w6 hb6 hph hap
       obtain ⟨hc6, hf6⟩ := bcell hb6
       (try simp only [qD, qE, qF] at hc6 hf6)
       have hz6 := hb6.size
       (try simp at hz6)
       (try have hy6_0 : w.heap.size < w6.heap.size := by omega)
       (try have hy6_1 : w.heap.size + 1 < w6.heap.size := by omega)
       (try have hy6_2 : w.heap.size + 2 < w6.heap.size := by omega)
       (try have hy6_3 : w.heap.size + 3 < w6.heap.size := by omega)
       (try have hx6_0 : w.heap.size ≤ w6.heap.size := by omega)
       (try have hx6_1 : w.heap.size + 1 ≤ w6.heap.size := by omega)
       (try have hx6_2 : w.heap.size + 2 ≤ w6.heap.size := by omega)
       have hp0 := hph 0 (by simp) (by decide)
       have hp1 := hph 1 (by simp) (by decide)
       have hp2 := hph 2 (by simp) (by decide)
       have hp3 := hph 3 (by simp) (by decide)
       have hp4 := hph 4 (by simp) (by decide)
       have hp5 := hph 5 (by simp) (by decide)
       have hp6 := hph 6 (by simp) (by decide)
       have hp7 := hph 7 (by simp) (by decide)
       have hp8 := hph 8 (by simp) (by decide)
       have hp9 := hph 9 (by simp) (by decide)
       have hp11 := hph 11 (by simp) (by decide)
       clear hph hap
       simp only [List.length_cons, List.length_nil, List.take_succ_cons, List.take_zero, List.drop_succ_cons, List.drop_zero, List.cons_append, List.nil_append, putsFrom, putsBut, Act.put, qA, qB, qC, Nat.zero_add, Nat.reduceAdd, Nat.reduceEqDiff, if_true, if_false, reduceIte, Nat.zero_ne_one, Nat.one_ne_zero]
       generalize u 0 = u0 at *
       generalize u 1 = u1 at *
       generalize u 2 = u2 at *
       generalize u 3 = u3 at *
       generalize u 4 = u4 at *
       generalize u 5 = u5 at *
       generalize u 6 = u6 at *
       generalize u 7 = u7 at *
       generalize u 8 = u8 at *
       generalize u 9 = u9 at *
       generalize u 11 = u11 at *
       clear u
       cases hp0
       cases hp1
       cases hp2
       cases hp3
       cases hp4
       cases hp5
       cases hp6
       cases hp7
       cases hp8
       cases hp9
       obtain ⟨B11, rfl, hl11, hg11, hs11⟩ := hp11
       (try simp only [cellsAre, and_true] at hs11)
       rotate_left
       all_goals
        go_upto_region 17 with fail
        have hlB : w5.heap.size ≤ B11 := by simpa using hl11
        have hC6 : Below wr.heap.size wr w6 := by (repeat (first | with_reducible exact Below.refl _ _ | ((with_reducible refine Below.alloc1 ?_ ?_ _); (· first | omega | (simp; done) | (simp; omega))) | (with_reducible refine Below.drew ?_) | (with_reducible refine below_drewN' ?_ _) | ((with_reducible refine Below.setCell1 ?_ ?_ _); (· first | omega | (simp; done) | (simp; omega))) | ((with_reducible refine Below.after (by assumption) ?_ ?_); (· first | omega | (simp; done) | (simp; omega))))); exact hC5
        generalize hW7 : World.setCell _ _ _ = w7
        have hC7 : Below wr.heap.size wr w7 := by rw [← hW7]; exact below_auto
        have hB7 : Below w1.heap.size w1 w7 := hb2.trans (hC7.mono hz2)
        have hz7 := hC7.size
        have hS7 : wr.heap.size < w7.heap.size := by rw [← hW7]; simp [go_sem]; omega
        have k0 := congrArg (fun W => W.cell? ⟨wr.heap.size, 0, none⟩) hW7.symm
        have k1 := congrArg (fun W => W.cell? ⟨wr.heap.size, 1, none⟩) hW7.symm
        have k2 := congrArg (fun W => W.cell? ⟨wr.heap.size, 2, none⟩) hW7.symm
        have k3 := congrArg (fun W => W.cell? ⟨wr.heap.size, 3, none⟩) hW7.symm
        clear hW7
        simp [go_sem, *] at k0 k1 k2 k3
        have hown7 := HO2.out.kept (grown_of_below hC7) (by cases (Value.slice (some ⟨g', 0, none⟩) (q + 1) cv).ownBlock <;> simp)
        obtain ⟨a', c', w', hr, ho', hb'⟩ := app1 (l := p ++ [y]) (c := cv) (a := some ⟨g', 0, none⟩) x hB7 (by rw [List.length_append, hq]; exact hown7) hB7.size (by rw [List.length_append, hq]; simp; omega)
        have HO' := hid ho'
        have hpl : (p ++ [y]).length = q + 1 := by rw [List.length_append, hq]; rfl
        rw [hpl] at hr
        clear ho' hown7 hc6 hf6 hs11 f' hjl hpl
        go_wp2_with (at_builtin; refine Lib.wpList_append_run _ rfl _ _ _ _ rfl _ _ rfl rfl _ _ (hr _) ?_)
        go_roundw
        case rel => exact ⟨j + 1, a', c', by omega, by go_num, by rw [HR.out]; simp [hq], hid (by rw [HR.out, List.length_append]; exact HO'.out), hb'⟩
        case measure => simp [intOf]; omega
    ·obtain rfl : j = m := by omega
     have htk : G.take j = G := by rw [← HL.out, List.take_length]
     rw [htk] at HO2 ⊢
     have hfin : ∀ W, Below wr.heap.size wr W → NormRet w (joinAll [] G) (.returned (.slice v (joinAll [] G).length cv)) W := fun W h1 =>
      ⟨v, cv, rfl, own_le (HO2.out.kept (grown_of_below h1) (by cases (Value.slice v (joinAll [] G).length cv).ownBlock <;> simp)) hz1, hb1.trans ((hb2.trans (h1.mono hz2)).mono hz1)⟩
     have HFn := hid hfin
     clear hfin
     go_wp2
     go_ret
     exact HFn.out _ (by exact below_auto)
end Go.Proofs.YtekmadgacepdfaaGreat.N
