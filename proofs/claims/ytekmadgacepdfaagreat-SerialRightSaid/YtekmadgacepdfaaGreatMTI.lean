/- Several texts as one: NoteI TIR. -/
import Derived.Test.YtekmadgacepdfaaGreatMNC
import Derived.Test.YtekmadgacepdfaaGreatMTJ
namespace Go.Proofs.YtekmadgacepdfaaGreat
set_option linter.unusedVariables false
open Go.RowKit

section
variable {P : Program} {l : List Oper}

def setI (L : Nat → Bool) (i : Nat) : Nat → Bool := fun j => decide (j = i) || L j
def setU (u : Nat → Value) (i : Nat) (v : Value) : Nat → Value := fun j => if j = i then v else u j
theorem setI_self (L : Nat → Bool) (i : Nat) : setI L i i = true := by simp [setI]
theorem setI_ne {L : Nat → Bool} {i j : Nat} (h : j ≠ i) : setI L i j = L j := by simp [setI, h]
theorem setU_self (u : Nat → Value) (i : Nat) (v : Value) : setU u i v i = v := by simp [setU]
theorem setU_ne {u : Nat → Value} {i j : Nat} {v : Value} (h : j ≠ i) : setU u i v j = u j := by simp [setU, h]
/-- The value of an operation; one without a slot has none. -/
def gotI (o : Oper) (v : Value) : Value := if o.dst.isNone then undef else v
/-- What operation i, run behind pre, must do, whatever else has run. -/
def StepI (P : Program) (R : (Nat → Bool) → (Nat → Value) → World → Prop) (X : List PanicEntry → World → Prop) (all : List Oper) (a0 : Act) (i : Nat) (pre : List Oper) (o : Oper) : Prop :=
 ∀ (L : Nat → Bool) (u : Nat → Value) (x : World), (∀ p, reach .any all all.length i p = true → L p = true) → (∀ p, reach .any all all.length p i = true → L p = false) → L i = false → R L u x →
  wpList P #[] (postX (fun v w' => R (setI L i) (setU u i (gotI o v)) w') X o.dst a0.defers) [o] (putsFrom u 0 pre a0) x
def StepsI (P : Program) (R : (Nat → Bool) → (Nat → Value) → World → Prop) (X : List PanicEntry → World → Prop) (all : List Oper) (a0 : Act) : Nat → List Oper → List Oper → Prop
 | _, _, [] => True
 | i, pre, o :: os => StepI P R X all a0 i pre o ∧ StepsI P R X all a0 (i + 1) (pre ++ [o]) os
theorem StepsI.at {R : (Nat → Bool) → (Nat → Value) → World → Prop} {X : List PanicEntry → World → Prop} {all : List Oper} {a0 : Act} : ∀ {os pre : List Oper} {k i : Nat} {o : Oper}, StepsI P R X all a0 k pre os → os[i]? = some o → StepI P R X all a0 (k + i) (pre ++ os.take i) o
 | [], _, _, _, _, _, h => by simp at h
 | p :: os, pre, k, 0, o, hs, h => by
  simp at h; subst h
  simpa using hs.1
 | p :: os, pre, k, i + 1, o, hs, h => by
  have := StepsI.at hs.2 (i := i) (o := o) (by simpa using h)
  have e : k + 1 + i = k + (i + 1) := by omega
  rw [e] at this
  simpa using this
theorem getD_setI {L : Array Bool} {i : Nat} (hi : i < L.size) : (fun j => (L.setIfInBounds i true).getD j false) = setI (fun j => L.getD j false) i := by
 funext j
 by_cases e : j = i
 ·subst e; rw [setI_self]; exact getD_set_eq hi
 ·rw [setI_ne e]; exact getD_set_ne false (Ne.symm e)
/-- No guards, no select; what an operation waits for stands ahead of it; an operand in a slot of the region's is in one that the operation waits for. -/
def indepI (md : Region.Mode) (l : List Oper) : Bool :=
 (List.range l.length).all fun i => match l[i]? with
  | some o => o.guard.isNone && (match o.op with | .select _ _ => false | _ => true) && (o.after.all fun e => !Region.binds md e || decide (e.on < i)) && o.op.operands.all fun x => match x with
   | .tmp t => (List.range l.length).all fun j => decide ((l[j]?).bind (·.dst) ≠ some t) || o.after.any fun e => Region.binds md e && decide (e.on = j)
   | _ => true
  | none => false
theorem indepI_spec {md : Region.Mode} {i : Nat} {o : Oper} (h : indepI md l = true) (ho : l[i]? = some o) :
  o.guard = none ∧ (∀ cs b, o.op ≠ .select cs b) ∧ (∀ e ∈ o.after, Region.binds md e = true → e.on < i) ∧ ∀ t, .tmp t ∈ o.op.operands → ∀ j, j < l.length → (l[j]?).bind (·.dst) = some t → ∃ e ∈ o.after, Region.binds md e = true ∧ e.on = j := by
 have hi : i < l.length := (List.getElem?_eq_some_iff.1 ho).1
 have h1 := List.all_eq_true.1 h i (List.mem_range.2 hi)
 rw [ho] at h1
 simp only [Bool.and_eq_true] at h1
 obtain ⟨⟨⟨h2, h3⟩, h4⟩, h5⟩ := h1
 refine ⟨by simpa using h2, fun cs b e => (by rw [e] at h3; cases h3), fun e he hb => ?_, fun t ht j hj hd => ?_⟩
 ·have := Array.all_eq_true'.1 h4 e he
  rw [hb] at this
  simpa using this
 ·have := Array.all_eq_true'.1 h5 _ ht
  simp only at this
  have := List.all_eq_true.1 this j (List.mem_range.2 hj)
  simp only [Bool.or_eq_true, decide_eq_true_eq] at this
  rcases this with h | h
  ·exact absurd hd h
  ·obtain ⟨e, he, h6⟩ := Array.any_eq_true'.1 h
   simp only [Bool.and_eq_true, decide_eq_true_eq] at h6
   exact ⟨e, he, h6.1, h6.2⟩
def chainI (md : Region.Mode) (l : List Oper) (sz : Nat) : Bool := dstC l sz && indepI md l
theorem wp_region_inv {id : Nat} {Q : Exit → Act → World → Prop} {a0 : Act} {w0 : World} (R : (Nat → Bool) → (Nat → Value) → World → Prop) (X : List PanicEntry → World → Prop) {sz : Nat} (hsz : a0.tmps.size = sz) (hm : P.follows .mixedOrders = true) (hB : chainI .any l sz = true)
  (h0 : R (fun _ => false) (fun _ => undef) { w0 with drawn := w0.drawn + 1 }) (hs : StepsI P R X l a0 0 [] l) (hK : ∀ L u x, (∀ i, i < l.length → L i = true) → R L u x → Q .normal (putsFrom u 0 l a0) x) (hX : ∀ c a x, a.defers = a0.defers → X c x → Q (.panic c) a x) :
  (Code.region id l.toArray true).wp P Q a0 w0 := by
 subst hsz
 simp only [chainI, Bool.and_eq_true] at hB
 obtain ⟨hd, hin⟩ := hB
 refine wp_region_any hm ?_
 have fwd : ∀ (fuel : Nat) (L : Array Bool) (a : Act) (w : World) (u : Nat → Value), L.size = l.length → CNotes .any l [] u (fun _ _ => True) a0 L a w → R (fun j => L.getD j false) u w → (L.toList.filter (!·)).length = fuel → wpAny P .any l.toArray Q fuel L a w := by
  intro fuel
  induction fuel with
  | zero =>
   intro L a w u hz H HR hcnt
   have h1 : ∀ i, i < l.length → L[i]? = some true := fun i hi => by
    have := count_zero hcnt i (by simp; omega)
    rw [Array.getElem?_toList] at this
    exact this
   have lis : ∀ i, i < l.length → L.getD i false = true := fun i hi => by rw [Array.getD_eq_getD_getElem?, h1 i hi]; rfl
   obtain ⟨p1, p2, p3, p4⟩ := putsC_spec u hd l.length (Nat.le_refl _)
   rw [List.take_length] at p1 p2 p3 p4
   have ea : a = putsFrom u 0 l a0 := by
    refine act_ext (by rw [p2]; exact H.defers) (by rw [p1]; exact H.size) fun k => ?_
    by_cases hj : ∃ j, j < l.length ∧ (l[j]?).bind (·.dst) = some k
    ·obtain ⟨j, hj, hdj⟩ := hj
     rw [p3 j k hj hdj, H.note j k hj (lis j hj) hdj]
    ·have hno : ∀ j, j < l.length → (l[j]?).bind (·.dst) ≠ some k := fun j hj' e => hj ⟨j, hj', e⟩
     rw [p4 k hno, H.rest k hno]
   have hq := hK _ u w lis HR
   rw [← ea] at hq
   refine ⟨?_, hq⟩
   rw [List.eq_nil_iff_forall_not_mem]
   intro i hi
   obtain ⟨h2, o, ho, _⟩ := mem_ready.1 hi
   have hil : i < l.length := by have := (Array.getElem?_eq_some_iff.1 ho).1; simpa using this
   rw [Array.getD_eq_getD_getElem?, h1 i hil] at h2
   simp at h2
  | succ fuel ih =>
   intro L a w u hz H HR hcnt
   obtain ⟨q, hq⟩ := count_pos hcnt
   have hqn : q < l.length := by have := (List.getElem?_eq_some_iff.1 hq).1; simp at this; omega
   have hq' : L[q]? = some false := by rw [Array.getElem?_toList] at hq; exact hq
   refine ⟨fun h0 => ?_, fun i hi => ?_⟩
   ·exfalso
    obtain ⟨k, hk, hkmin⟩ := least_false q hq'
    have hkl : k < l.length := by have := (Array.getElem?_eq_some_iff.1 hk).1; omega
    obtain ⟨o, ho⟩ : ∃ o, l[k]? = some o := ⟨_, List.getElem?_eq_getElem hkl⟩
    obtain ⟨_, _, hf, _⟩ := indepI_spec hin ho
    have : k ∈ Region.ready .any l.toArray L := mem_ready.2 ⟨by rw [Array.getD_eq_getD_getElem?, hk]; rfl, o, by simpa using ho, fun e he hb => by
     have hlt := hf e he hb
     have hne := hkmin e.on hlt
     have hsz : e.on < L.size := by omega
     rw [Array.getD_eq_getD_getElem?]
     rw [Array.getElem?_eq_getElem hsz] at hne ⊢
     cases hv : L[e.on] with
     | true => rfl
     | false => rw [hv] at hne; exact absurd rfl hne⟩
    rw [h0] at this; cases this
   ·obtain ⟨h1, o, ho, hall⟩ := mem_ready.1 hi
    have hil : i < l.length := by have := (Array.getElem?_eq_some_iff.1 ho).1; simpa using this
    have hol : l[i]? = some o := by simpa using ho
    have hLs : i < L.size := by omega
    have hLi : L[i]? = some false := by
     rw [Array.getElem?_eq_getElem hLs]
     simp [Array.getD_eq_getD_getElem?, Array.getElem?_eq_getElem hLs] at h1
     rw [h1]
    have hLd : L.getD i false = false := by rw [Array.getD_eq_getD_getElem?, hLi]; rfl
    obtain ⟨hg, hsel, hfw, hop⟩ := indepI_spec hin hol
    have hwt : Region.wanted o (yielded l.toArray a.tmps) = true := by unfold Region.wanted; rw [hg]
    have hst := hs.at hol
    obtain ⟨p1, p2, p3, p4⟩ := putsC_spec u hd i (Nat.le_of_lt hil)
    unfold StepI at hst
    rw [List.nil_append, Nat.zero_add] at hst
    have hwp := hst _ u w (fun p hr => by
     cases hl : l.length with
     | zero => rw [hl] at hr; simp [reach] at hr
     | succ f =>
      rw [hl] at hr
      unfold reach at hr
      rw [hol] at hr
      simp only at hr
      obtain ⟨e, he, h2⟩ := Array.any_eq_true'.1 hr
      simp only [Bool.and_eq_true, Bool.or_eq_true, decide_eq_true_eq] at h2
      have h3 := hall e he h2.1
      rcases h2.2 with rfl | h4
      ·exact h3
      ·exact reach_done H.closed h4 h3) (fun p hr => by
     cases hp : L.getD p false with
     | false => rfl
     | true => rw [reach_done H.closed hr hp] at hLd; cases hLd) hLd HR
    rw [← p2] at hwp
    have hdo := doesX_of_wp (fun d hdd => by rw [p1]; exact (dstC_spec hd hil (by rw [hol]; exact hdd)).1) (fun hn v w' h => by
     have hu : ∀ v, gotI o v = undef := fun v => by unfold gotI; rw [hn]; rfl
     rw [hu] at h ⊢; exact h) hg hwp
    have hcongr : execOp a.eval o = execOp (putsFrom u 0 (l.take i) a0).eval o := by
     refine execOp_congr o hsel fun x hx => ?_
     cases x with
     | tmp t =>
      show a.tmps.getD t undef = (putsFrom _ 0 (l.take i) a0).tmps.getD t undef
      rw [Array.getD_eq_getD_getElem?, Array.getD_eq_getD_getElem?]
      by_cases hj : ∃ j, j < l.length ∧ (l[j]?).bind (·.dst) = some t
      ·obtain ⟨j, hj, hdj⟩ := hj
       obtain ⟨e, he, hbd, rfl⟩ := hop _ hx j hj hdj
       have hlt := hfw e he hbd
       rw [p3 e.on t hlt hdj, H.note e.on t hj (hall e he hbd) hdj]
      ·have hno : ∀ j, j < l.length → (l[j]?).bind (·.dst) ≠ some t := fun j hj' e => hj ⟨j, hj', e⟩
       rw [p4 t hno, H.rest t hno]
     | const v => rfl
     | global g => rfl
     | func f => rfl
    have hdo2 : Oper.doesX P o a w (fun v w' => R (setI (fun j => L.getD j false) i) (setU u i (gotI o v)) w') X := by
     unfold Oper.doesX at hdo ⊢
     rw [hcongr]; exact hdo
    unfold wpOp
    rw [ho]
    dsimp only
    rw [if_pos hwt]
    refine .inl (wp_of_doesX hdo2 (fun v w' hv => ?_) (fun c w' hc => hX c a w' H.defers hc))
    have Hm : CNotes .any l [] (setU u i (gotI o v)) (fun _ _ => True) a0 L a w := by
     refine ⟨trivial, H.closed, H.defers, H.size, H.rest, fun j d hj hl hdj => ?_⟩
     have hji : j ≠ i := fun e => by rw [e, hLd] at hl; cases hl
     rw [setU_ne hji]; exact H.note j d hj hl hdj
    refine ih _ _ w' _ (by simpa using hz) (Hm.step List.nodup_nil hd hol hLs hLd hall (fun hn => ?_) trivial) ?_ ?_
    ·rw [setU_self]; unfold gotI
     cases hdo : o.dst with
     | none => exact absurd hdo hn
     | some d => rfl
    ·rw [getD_setI hLs]; exact hv
    ·have := count_set L.toList i (by rw [Array.getElem?_toList]; exact hLi)
     rw [Array.toList_setIfInBounds]; omega
 have H0 : CNotes .any l [] (fun _ => undef) (fun _ _ => True) a0 (Array.replicate l.toArray.size false) a0 { w0 with drawn := w0.drawn + 1 } := by
  refine ⟨trivial, fun i o _ hi => (by rw [getD_replicate_false] at hi; cases hi), rfl, rfl, fun _ _ => rfl, fun i d _ hl => (by rw [getD_replicate_false] at hl; cases hl)⟩
 have e0 : (fun j => (Array.replicate l.toArray.size false).getD j false) = fun _ => false := by funext j; exact getD_replicate_false _ _
 have := fwd l.length (Array.replicate l.toArray.size false) a0 { w0 with drawn := w0.drawn + 1 } (fun _ => undef) (by simp) H0 (by rw [e0]; exact h0) (by simp)
 simpa using this
end
end Go.Proofs.YtekmadgacepdfaaGreat
namespace Go.Proofs.YtekmadgacepdfaaGreat.T
set_option linter.unusedVariables false
open Go.RowKit Fl
set_option linter.unusedSimpArgs false

/-- What lies in a fact of an operation that has run. -/
theorem keepI {p : Value → Prop} {L : Nat → Bool} {u : Nat → Value} {i j : Nat} {v : Value} (h : L j = true → p (u j)) (hv : j = i → p v) : setI L i j = true → p (setU u i v j) := by
 intro hl
 by_cases e : j = i
 ·subst e; rw [setU_self]; exact hv rfl
 ·rw [setU_ne e]; exact h (by rwa [setI_ne e] at hl)
/-- A box, empty or filled. -/
def boxT (X : World) (u : Value) (m : Nat) (f : Bool) (d : DoneV) : Prop := ∃ B, u = .pointer (some ⟨B, 0, none⟩) ∧ m ≤ B ∧ X.heap[B]? = some (.cells (dEnc (if f then d else noDone)).toArray 73 (0, 0))
theorem boxT.after {X X' : World} {u : Value} {m : Nat} {f : Bool} {d : DoneV} (h : boxT X u m f d) (hb : Below X.heap.size X X') : boxT X' u m f d := by
 obtain ⟨B, h1, h2, h3⟩ := h
 exact ⟨B, h1, h2, (hb.block B (Array.getElem?_eq_some_iff.1 h3).1).trans h3⟩
theorem boxT.grown {X X' : World} {u : Value} {m g : Nat} {f : Bool} {d : DoneV} (h : boxT X u m f d) (hg : X.grownBy X' (some g)) (hne : u ≠ .pointer (some ⟨g, 0, none⟩)) : boxT X' u m f d := by
 obtain ⟨B, h1, h2, h3⟩ := h
 exact ⟨B, h1, h2, (hg.block B (Array.getElem?_eq_some_iff.1 h3).1 fun e => hne (by rw [h1, Option.some.inj e])).trans h3⟩
theorem set7 {w : World} {B : Nat} {T : TypeId} {z0 z1 z2 z3 z4 z5 z6 : Value} (h : w.heap[B]? = some (.cells #[z0, z1, z2, z3, z4, z5, z6] T (0, 0))) (v0 v1 v2 v3 v4 v5 v6 : Value) :
  (((((((w.setCell ⟨B, 0, none⟩ v0).setCell ⟨B, 1, none⟩ v1).setCell ⟨B, 2, none⟩ v2).setCell ⟨B, 3, none⟩ v3).setCell ⟨B, 4, none⟩ v4).setCell ⟨B, 5, none⟩ v5).setCell ⟨B, 6, none⟩ v6).heap[B]? = some (.cells #[v0, v1, v2, v3, v4, v5, v6] T (0, 0)) ∧
  w.grownBy (((((((w.setCell ⟨B, 0, none⟩ v0).setCell ⟨B, 1, none⟩ v1).setCell ⟨B, 2, none⟩ v2).setCell ⟨B, 3, none⟩ v3).setCell ⟨B, 4, none⟩ v4).setCell ⟨B, 5, none⟩ v5).setCell ⟨B, 6, none⟩ v6) (some B) := by
 obtain ⟨a0, b0⟩ := K.set1 (i := 0) h v0
 simp only [List.setIfInBounds_toArray, List.set_cons_zero, List.set_cons_succ] at a0
 obtain ⟨a1, b1⟩ := K.set1 (i := 1) a0 v1
 simp only [List.setIfInBounds_toArray, List.set_cons_zero, List.set_cons_succ] at a1
 obtain ⟨a2, b2⟩ := K.set1 (i := 2) a1 v2
 simp only [List.setIfInBounds_toArray, List.set_cons_zero, List.set_cons_succ] at a2
 obtain ⟨a3, b3⟩ := K.set1 (i := 3) a2 v3
 simp only [List.setIfInBounds_toArray, List.set_cons_zero, List.set_cons_succ] at a3
 obtain ⟨a4, b4⟩ := K.set1 (i := 4) a3 v4
 simp only [List.setIfInBounds_toArray, List.set_cons_zero, List.set_cons_succ] at a4
 obtain ⟨a5, b5⟩ := K.set1 (i := 5) a4 v5
 simp only [List.setIfInBounds_toArray, List.set_cons_zero, List.set_cons_succ] at a5
 obtain ⟨a6, b6⟩ := K.set1 (i := 6) a5 v6
 simp only [List.setIfInBounds_toArray, List.set_cons_zero, List.set_cons_succ] at a6
 exact ⟨a6, (((((b0.trans b1).trans b2).trans b3).trans b4).trans b5).trans b6⟩
/-- 'a, b := h[i], h[k]', as far as it has run. -/
structure PairR (w0 : World) (b o n c i q : Nat) (x y : DoneV) (L : Nat → Bool) (u : Nat → Value) (X : World) : Prop where
 below : Below w0.heap.size w0 X
 v0 : L 0 = true → u 0 = .slice (some ⟨b, o, none⟩) n c
 v1 : L 1 = true → u 1 = .int .i64 (i : Nat)
 v2 : L 2 = true → u 2 = .pointer (some ⟨b, o + i * 7, none⟩)
 v3 : L 3 = true → u 3 = .agg #[.int .i64 x.num, .int .i64 x.s.s0, .int .i64 x.s.s1, .int .i64 x.s.s2, .slice x.s.ra x.s.rs.length x.s.rc, .slice x.s.sa x.s.ss.length x.s.sc, .slice x.s.wa x.s.ws.length x.s.wc]
 v4 : L 4 = true → u 4 = .slice (some ⟨b, o, none⟩) n c
 v5 : L 5 = true → u 5 = .int .i64 (q : Nat)
 v6 : L 6 = true → u 6 = .pointer (some ⟨b, o + q * 7, none⟩)
 v7 : L 7 = true → u 7 = .agg #[.int .i64 y.num, .int .i64 y.s.s0, .int .i64 y.s.s1, .int .i64 y.s.s2, .slice y.s.ra y.s.rs.length y.s.rc, .slice y.s.sa y.s.ss.length y.s.sc, .slice y.s.wa y.s.ws.length y.s.wc]
 b8 : L 8 = true → boxT X (u 8) w0.heap.size (L 10) x
 b9 : L 9 = true → boxT X (u 9) w0.heap.size (L 11) y
 ne : L 8 = true → L 9 = true → u 8 ≠ u 9
theorem PairR.pure {w0 X : World} {b o n c i q : Nat} {x y : DoneV} {L : Nat → Bool} {u : Nat → Value} (h : PairR w0 b o n c i q x y L u X) (j : Nat) (v : Value) (hj : j < 8)
  (h0 : 0 = j → v = .slice (some ⟨b, o, none⟩) n c) (h1 : 1 = j → v = .int .i64 (i : Nat)) (h2 : 2 = j → v = .pointer (some ⟨b, o + i * 7, none⟩)) (h3 : 3 = j → v = .agg #[.int .i64 x.num, .int .i64 x.s.s0, .int .i64 x.s.s1, .int .i64 x.s.s2, .slice x.s.ra x.s.rs.length x.s.rc, .slice x.s.sa x.s.ss.length x.s.sc, .slice x.s.wa x.s.ws.length x.s.wc])
  (h4 : 4 = j → v = .slice (some ⟨b, o, none⟩) n c) (h5 : 5 = j → v = .int .i64 (q : Nat)) (h6 : 6 = j → v = .pointer (some ⟨b, o + q * 7, none⟩)) (h7 : 7 = j → v = .agg #[.int .i64 y.num, .int .i64 y.s.s0, .int .i64 y.s.s1, .int .i64 y.s.s2, .slice y.s.ra y.s.rs.length y.s.rc, .slice y.s.sa y.s.ss.length y.s.sc, .slice y.s.wa y.s.ws.length y.s.wc]) :
  PairR w0 b o n c i q x y (setI L j) (setU u j v) X := by
 refine ⟨h.below, keepI (p := (· = _)) h.v0 h0, keepI (p := (· = _)) h.v1 h1, keepI (p := (· = _)) h.v2 h2, keepI (p := (· = _)) h.v3 h3, keepI (p := (· = _)) h.v4 h4, keepI (p := (· = _)) h.v5 h5, keepI (p := (· = _)) h.v6 h6, keepI (p := (· = _)) h.v7 h7, ?_, ?_, ?_⟩
 ·rw [setI_ne (show 10 ≠ j by omega)]
  exact keepI (p := fun v => boxT X v _ _ _) h.b8 fun e => by omega
 ·rw [setI_ne (show 11 ≠ j by omega)]
  exact keepI (p := fun v => boxT X v _ _ _) h.b9 fun e => by omega
 ·rw [setI_ne (show 8 ≠ j by omega), setI_ne (show 9 ≠ j by omega), setU_ne (show 8 ≠ j by omega), setU_ne (show 9 ≠ j by omega)]
  exact h.ne
theorem PairR.new8 {w0 X : World} {b o n c i q : Nat} {x y : DoneV} {L : Nat → Bool} {u : Nat → Value} (h : PairR w0 b o n c i q x y L u X) (hl : L 10 = false) :
  PairR w0 b o n c i q x y (setI L 8) (setU u 8 (.pointer (some ⟨X.heap.size, 0, none⟩))) (X.alloc (.cells (dEnc noDone).toArray 73 (0, 0))) := by
 have hb : Below X.heap.size X (X.alloc (.cells (dEnc noDone).toArray 73 (0, 0))) := by exact below_auto
 have hne : ∀ {j : Nat}, j = 8 → j ≠ 8 → False := fun a b => b a
 refine ⟨h.below.trans (hb.mono h.below.size), keepI (p := (· = _)) h.v0 (fun e => by omega), keepI (p := (· = _)) h.v1 (fun e => by omega), keepI (p := (· = _)) h.v2 (fun e => by omega), keepI (p := (· = _)) h.v3 (fun e => by omega), keepI (p := (· = _)) h.v4 (fun e => by omega), keepI (p := (· = _)) h.v5 (fun e => by omega), keepI (p := (· = _)) h.v6 (fun e => by omega), keepI (p := (· = _)) h.v7 (fun e => by omega), ?_, ?_, ?_⟩
 ·rw [setI_ne (show 10 ≠ 8 by omega), hl]
  intro _
  rw [setU_self]
  exact ⟨_, rfl, h.below.size, heap_alloc_new X _⟩
 ·rw [setI_ne (show 11 ≠ 8 by omega), setI_ne (show 9 ≠ 8 by omega), setU_ne (show 9 ≠ 8 by omega)]
  exact fun h9 => (h.b9 h9).after hb
 ·rw [setI_ne (show 9 ≠ 8 by omega), setU_self, setU_ne (show 9 ≠ 8 by omega)]
  intro _ h9 e
  obtain ⟨B, e1, _, e3⟩ := h.b9 h9
  rw [← e] at e1
  have e4 := (Array.getElem?_eq_some_iff.1 e3).1
  simp only [Value.pointer.injEq, Option.some.injEq, Addr.mk.injEq, and_true] at e1
  omega
theorem PairR.new9 {w0 X : World} {b o n c i q : Nat} {x y : DoneV} {L : Nat → Bool} {u : Nat → Value} (h : PairR w0 b o n c i q x y L u X) (hl : L 11 = false) :
  PairR w0 b o n c i q x y (setI L 9) (setU u 9 (.pointer (some ⟨X.heap.size, 0, none⟩))) (X.alloc (.cells (dEnc noDone).toArray 73 (0, 0))) := by
 have hb : Below X.heap.size X (X.alloc (.cells (dEnc noDone).toArray 73 (0, 0))) := by exact below_auto
 refine ⟨h.below.trans (hb.mono h.below.size), keepI (p := (· = _)) h.v0 (fun e => by omega), keepI (p := (· = _)) h.v1 (fun e => by omega), keepI (p := (· = _)) h.v2 (fun e => by omega), keepI (p := (· = _)) h.v3 (fun e => by omega), keepI (p := (· = _)) h.v4 (fun e => by omega), keepI (p := (· = _)) h.v5 (fun e => by omega), keepI (p := (· = _)) h.v6 (fun e => by omega), keepI (p := (· = _)) h.v7 (fun e => by omega), ?_, ?_, ?_⟩
 ·rw [setI_ne (show 10 ≠ 9 by omega), setI_ne (show 8 ≠ 9 by omega), setU_ne (show 8 ≠ 9 by omega)]
  exact fun h9 => (h.b8 h9).after hb
 ·rw [setI_ne (show 11 ≠ 9 by omega), hl]
  intro _
  rw [setU_self]
  exact ⟨_, rfl, h.below.size, heap_alloc_new X _⟩
 ·rw [setI_ne (show 8 ≠ 9 by omega), setU_self, setU_ne (show 8 ≠ 9 by omega)]
  intro h9 _ e
  obtain ⟨B, e1, _, e3⟩ := h.b8 h9
  rw [e] at e1
  have e4 := (Array.getElem?_eq_some_iff.1 e3).1
  simp only [Value.pointer.injEq, Option.some.injEq, Addr.mk.injEq, and_true] at e1
  omega
theorem PairR.fill10 {w0 X X' : World} {b o n c i q B : Nat} {x y : DoneV} {L : Nat → Bool} {u : Nat → Value} {v : Value} (h : PairR w0 b o n c i q x y L u X) (h8 : L 8 = true) (hB : u 8 = .pointer (some ⟨B, 0, none⟩)) (hm : w0.heap.size ≤ B)
  (hX : X'.heap[B]? = some (.cells (dEnc x).toArray 73 (0, 0))) (hg : X.grownBy X' (some B)) : PairR w0 b o n c i q x y (setI L 10) (setU u 10 v) X' := by
 refine ⟨h.below.grown hg h.below.size (fun k hk => by cases hk; exact hm), keepI (p := (· = _)) h.v0 (fun e => by omega), keepI (p := (· = _)) h.v1 (fun e => by omega), keepI (p := (· = _)) h.v2 (fun e => by omega), keepI (p := (· = _)) h.v3 (fun e => by omega), keepI (p := (· = _)) h.v4 (fun e => by omega), keepI (p := (· = _)) h.v5 (fun e => by omega), keepI (p := (· = _)) h.v6 (fun e => by omega), keepI (p := (· = _)) h.v7 (fun e => by omega), ?_, ?_, ?_⟩
 ·rw [setI_self, setU_ne (show 8 ≠ 10 by omega)]
  exact fun _ => ⟨B, hB, hm, hX⟩
 ·rw [setI_ne (show 11 ≠ 10 by omega), setI_ne (show 9 ≠ 10 by omega), setU_ne (show 9 ≠ 10 by omega)]
  exact fun h9 => (h.b9 h9).grown hg (by rw [← hB]; exact Ne.symm (h.ne h8 h9))
 ·rw [setI_ne (show 8 ≠ 10 by omega), setI_ne (show 9 ≠ 10 by omega), setU_ne (show 8 ≠ 10 by omega), setU_ne (show 9 ≠ 10 by omega)]
  exact h.ne
theorem PairR.fill11 {w0 X X' : World} {b o n c i q B : Nat} {x y : DoneV} {L : Nat → Bool} {u : Nat → Value} {v : Value} (h : PairR w0 b o n c i q x y L u X) (h9 : L 9 = true) (hB : u 9 = .pointer (some ⟨B, 0, none⟩)) (hm : w0.heap.size ≤ B)
  (hX : X'.heap[B]? = some (.cells (dEnc y).toArray 73 (0, 0))) (hg : X.grownBy X' (some B)) : PairR w0 b o n c i q x y (setI L 11) (setU u 11 v) X' := by
 refine ⟨h.below.grown hg h.below.size (fun k hk => by cases hk; exact hm), keepI (p := (· = _)) h.v0 (fun e => by omega), keepI (p := (· = _)) h.v1 (fun e => by omega), keepI (p := (· = _)) h.v2 (fun e => by omega), keepI (p := (· = _)) h.v3 (fun e => by omega), keepI (p := (· = _)) h.v4 (fun e => by omega), keepI (p := (· = _)) h.v5 (fun e => by omega), keepI (p := (· = _)) h.v6 (fun e => by omega), keepI (p := (· = _)) h.v7 (fun e => by omega), ?_, ?_, ?_⟩
 ·rw [setI_ne (show 10 ≠ 11 by omega), setI_ne (show 8 ≠ 11 by omega), setU_ne (show 8 ≠ 11 by omega)]
  exact fun h8 => (h.b8 h8).grown hg (by rw [← hB]; exact h.ne h8 h9)
 ·rw [setI_self, setU_ne (show 9 ≠ 11 by omega)]
  exact fun _ => ⟨B, hB, hm, hX⟩
 ·rw [setI_ne (show 8 ≠ 11 by omega), setI_ne (show 9 ≠ 11 by omega), setU_ne (show 8 ≠ 11 by omega), setU_ne (show 9 ≠ 11 by omega)]
  exact h.ne

set_option maxHeartbeats 2000000 in
set_option maxRecDepth 100000 in
theorem refRight_any (a : Option Addr) (c n : Nat) (h : List DoneV) (v : Bool) (w : World) (hn : h.length = n) (hh : HAt w a h) (hv : refRightV h = v) :
  Calls Tryz.prog 27 #[.slice a n c] w (Ret (.bool v) w) := by
 have hm := hh.len
 rw [hn] at hm
 have HX := hid hh
 have HN := hid hn
 have HV := hid hv
 have HLT := hid hh.keys_lt
 clear hh hn hv
 by_cases h64 : n ≤ 64
 rotate_left
 ·have hvf : v = false := by rw [← HV.out]; unfold refRightV; rw [HN.out]; simp; omega
  subst hvf
  have h64' : (64 : Int) < (n : Int) := by omega
  clear HX HV HN HLT
  go_enter Tryz.func27, Tryz.ntmps27
  go_wp2
  go_ret
  exact ⟨rfl, by exact below_auto⟩
 have h64' : ¬ (64 : Int) < (n : Int) := by omega
 have hva : refRightV h = ((List.range n).all (fun i => refBasic h i) && (List.range n).all fun i => (List.range i).all fun k => refPair h i k) := by
  unfold refRightV
  rw [HN.out, decide_eq_true h64, Bool.true_and]
 have HVA := hid (hva.symm.trans HV.out)
 clear hva HV
 go_enter Tryz.func27, Tryz.ntmps27
 go_upto_region 4 with fail
 go_loopw [3] (fun t3 wr => ∃ k : Nat, t3 = .int .i64 (k : Nat) ∧ k ≤ n ∧ Hid (∀ j : Nat, j < k → refBasic h j = true) ∧ Below w.heap.size w wr) (fun t3 _ => n - (intOf t3).toNat)
 case atStart => exact ⟨0, rfl, Nat.zero_le _, hid fun j hj => absurd hj (Nat.not_lt_zero _), Below.refl _ _⟩
 case round =>
  obtain ⟨k, rfl, hk, HR, hbw⟩ := hrel
  by_cases hlt : k < n
  ·have hkl : k < h.length := by rw [HN.out]; exact hlt
   have hlt' : (k : Int) < (n : Int) := by omega
   have hsz := hbw.size
   have hkx : Hid (h[k]? = some (h[k]?.getD default)) := hid (by rw [List.getElem?_eq_getElem hkl]; rfl)
   rcases (HX.out.below hbw).row with h0 | ⟨b, o, ha, hbl, hc⟩
   ·rw [h0] at hkl; simp at hkl
   subst ha
   have hc := hc k hkl
   have HS := hid (HX.out.sub k hkl)
   clear hkl
   have hso' : refBasic h k = basicV k (h[k]?.getD default) := by unfold refBasic; rw [hkx.out]; rfl
   generalize h[k]?.getD default = x at *
   have c0 : wr.cell? ⟨b, o + k * 7, none⟩ = some (.int .i64 x.num) := hc 0 _ rfl
   have c1 := hc 1 _ rfl
   have c2 := hc 2 _ rfl
   have c3 := hc 3 _ rfl
   have c4 := hc 4 _ rfl
   have c5 := hc 5 _ rfl
   have c6 := hc 6 _ rfl
   clear hc
   have stop : basicV k x = false → Hid (v = false) := fun hs => hid (by
    rw [← HVA.out, Bool.and_eq_false_iff]
    left
    rw [List.all_eq_false]
    exact ⟨k, List.mem_range.2 hlt, by rw [hso', hs]; decide⟩)
   have HSO := hid hso'
   clear hso'
   have HCK := fun W (hb : Below w.heap.size w W) => K.refCheck_any x.s W (HS.out.below hb)
   by_cases q1 : x.num = (k : Int) + 1
   rotate_left
   ·have hq : (x.num != (k : Int) + 1) = true := by simpa using q1
    have HV0 := stop (by unfold basicV; rw [decide_eq_false q1]; rfl)
    clear stop HCK q1
    go_wp2_with fail
    go_ret
    exact ⟨ret_bool HV0.out.symm, by exact below_auto⟩
   have hq : (x.num != (k : Int) + 1) = false := by simpa using q1
   by_cases q2 : K.SubV.check x.s = 0
   rotate_left
   ·have hq2 : (K.SubV.check x.s != 0) = true := by simpa using q2
    have HV0 := stop (by unfold basicV; rw [decide_eq_false q2]; simp)
    clear stop q2
    generalize K.SubV.check x.s = ck at *
    go_wp2_with (go_at_call 51; (with_reducible refine (HCK _ (by exact below_auto)).mono ?_); rintro e w1 ⟨rfl, hb1⟩; obtain ⟨hc1, hf1⟩ := bcell hb1; (try simp only [World.heap_drewN, World.cell?_drewN, World.frozen?_drewN] at hc1 hf1); have hz1 := hb1.size; (try simp at hz1); (try have hy1_0 : w.heap.size < w1.heap.size := by omega); (try have hy1_1 : w.heap.size + 1 < w1.heap.size := by omega); (try have hx1_0 : w.heap.size ≤ w1.heap.size := by omega); (try have hx1_1 : w.heap.size + 1 ≤ w1.heap.size := by omega))
    go_ret
    exact ⟨ret_bool HV0.out.symm, by exact below_auto⟩
   rw [q2] at HCK
   by_cases q3 : x.s.s2 < x.num
   rotate_left
   ·have hq3 : x.num ≤ x.s.s2 := by omega
    have HV0 := stop (by unfold basicV; rw [decide_eq_false q3]; simp)
    clear stop q1 q2 q3
    go_wp2_with (go_at_call 51; (with_reducible refine (HCK _ (by exact below_auto)).mono ?_); rintro e w1 ⟨rfl, hb1⟩; obtain ⟨hc1, hf1⟩ := bcell hb1; (try simp only [World.heap_drewN, World.cell?_drewN, World.frozen?_drewN] at hc1 hf1); have hz1 := hb1.size; (try simp at hz1); (try have hy1_0 : w.heap.size < w1.heap.size := by omega); (try have hy1_1 : w.heap.size + 1 < w1.heap.size := by omega); (try have hx1_0 : w.heap.size ≤ w1.heap.size := by omega); (try have hx1_1 : w.heap.size + 1 ≤ w1.heap.size := by omega))
    go_ret
    exact ⟨ret_bool HV0.out.symm, by exact below_auto⟩
   have hq3 : ¬ x.num ≤ x.s.s2 := by omega
   have hb1 : basicV k x = true := by unfold basicV; simp [q1, q2]; omega
   have HB1 := hid hb1
   clear stop q1 q2 q3 hb1
   go_wp2_with (go_at_call 51; (with_reducible refine (HCK _ (by exact below_auto)).mono ?_); rintro e w1 ⟨rfl, hb1⟩; obtain ⟨hc1, hf1⟩ := bcell hb1; (try simp only [World.heap_drewN, World.cell?_drewN, World.frozen?_drewN] at hc1 hf1); have hz1 := hb1.size; (try simp at hz1); (try have hy1_0 : w.heap.size < w1.heap.size := by omega); (try have hy1_1 : w.heap.size + 1 < w1.heap.size := by omega); (try have hx1_0 : w.heap.size ≤ w1.heap.size := by omega); (try have hx1_1 : w.heap.size + 1 ≤ w1.heap.size := by omega))
   go_roundw
   case rel => exact ⟨k + 1, by go_num, by omega, hid fun j hj => by
     by_cases hjk : j < k
     ·exact HR.out j hjk
     ·obtain rfl : j = k := by omega
      rw [HSO.out]; exact HB1.out, by exact below_auto⟩
   case measure => simp [intOf]; omega
  ·obtain rfl : k = n := by omega
   have hge : ¬ (k : Int) < (k : Int) := by omega
   have hbas : ((List.range k).all fun i => refBasic h i) = true := by
    rw [List.all_eq_true]; exact fun i hi => HR.out i (List.mem_range.1 hi)
   have hv := HVA.out
   rw [hbas, Bool.true_and] at hv
   have HV := hid hv
   have hkl : (keysV h).length ≤ 1024 := Nat.le_trans (keys_le fun d hd => by
    obtain ⟨i, hi, rfl⟩ := List.mem_iff_getElem.1 hd
    have h1 := HR.out i (by rw [← HN.out]; exact hi)
    unfold refBasic at h1
    rw [List.getElem?_eq_getElem hi] at h1
    exact check_ws (basic_parts h1).2.1) (by rw [HN.out]; omega)
   have HKY := hid (refKeys_any a c k h wr HN.out (HX.out.below hbw) h64 hkl)
   clear hbas hv HVA HR
   go_upto_region 9 with fail
   go_wp2_with fail
   refine HKY.out.mono ?_
   rintro e w1 ⟨ak, ck, rfl, hK, hb1⟩
   have hbw1 := hbw.trans (hb1.mono hbw.size)
   have HK := hid hK
   obtain ⟨m, hml⟩ : ∃ m, m = (keysV h).length := ⟨_, rfl⟩
   rw [← hml] at hkl
   rw [← hml]
   have HML := hid hml
   clear HKY hK hb1 hbw hml
   go_upto_region 11 with fail
   go_loopw [6] (fun t6 wx => ∃ i : Nat, t6 = .int .i64 (i : Nat) ∧ i ≤ k ∧ Hid (∀ i' : Nat, i' < i → ∀ k', k' < i' → refPair h i' k' = true) ∧ Below w1.heap.size w1 wx) (fun t6 _ => k - (intOf t6).toNat)
   case atStart => exact ⟨0, rfl, Nat.zero_le _, hid fun j hj => absurd hj (Nat.not_lt_zero _), Below.refl _ _⟩
   case round =>
    obtain ⟨i, rfl, hi, HRI, hbi⟩ := hrel
    by_cases hil : i < k
    ·have hil' : (i : Int) < (k : Int) := by omega
     have hkl1 : i < h.length := by rw [HN.out]; exact hil
     have hkx : Hid (h[i]? = some (h[i]?.getD default)) := hid (by rw [List.getElem?_eq_getElem hkl1]; rfl)
     have HSX := hid (HX.out.sub i hkl1)
     have HXR := hid fun W (hb : Below w1.heap.size w1 W) => (HX.out.below (hbw1.trans (hb.mono hbw1.size))).row
     have HI1 := hid hkl1
     clear hkl1
     generalize hxe : h[i]?.getD default = x at *
     have HXE := hid hxe
     clear hxe
     go_upto_region 14 with fail
     go_loopw [7] (fun t7 wx => ∃ q : Nat, t7 = .int .i64 (q : Nat) ∧ q ≤ i ∧ Hid (∀ k', k' < q → refPair h i k' = true) ∧ Below w1.heap.size w1 wx) (fun t7 _ => i - (intOf t7).toNat)
     case atStart => exact ⟨0, rfl, Nat.zero_le _, hid fun j hj => absurd hj (Nat.not_lt_zero _), hbi⟩
     case round =>
      obtain ⟨q, rfl, hq, HRQ, hbq⟩ := hrel
      by_cases hql : q < i
      ·have hql' : (q : Int) < (i : Int) := by omega
       have hkl2 : q < h.length := by rw [HN.out]; omega
       have hky : Hid (h[q]? = some (h[q]?.getD default)) := hid (by rw [List.getElem?_eq_getElem hkl2]; rfl)
       have HSY := hid (HX.out.sub q hkl2)
       have hil2 := HI1.out
       rcases HXR.out wr hbq with h0 | ⟨b, o, ha, hbl, hc⟩
       ·rw [h0] at hkl2; simp at hkl2
       subst ha
       have hcx := hc i hil2
       have hcy := hc q hkl2
       clear hkl2 hil2 hc
       rw [HXE.out] at hcx
       have hpr : refPair h i q = pairOk h x (h[q]?.getD default) := by unfold refPair; rw [hkx.out, hky.out]; rfl
       generalize h[q]?.getD default = y at *
       have HPR := hid hpr
       clear hpr
       have c0 : wr.cell? ⟨b, o + i * 7, none⟩ = some (.int .i64 x.num) := hcx 0 _ rfl
       have c1 := hcx 1 _ rfl
       have c2 := hcx 2 _ rfl
       have c3 := hcx 3 _ rfl
       have c4 := hcx 4 _ rfl
       have c5 := hcx 5 _ rfl
       have c6 := hcx 6 _ rfl
       have d0 : wr.cell? ⟨b, o + q * 7, none⟩ = some (.int .i64 y.num) := hcy 0 _ rfl
       have d1 := hcy 1 _ rfl
       have d2 := hcy 2 _ rfl
       have d3 := hcy 3 _ rfl
       have d4 := hcy 4 _ rfl
       have d5 := hcy 5 _ rfl
       have d6 := hcy 6 _ rfl
       clear hcx hcy
       have hszq := hbq.size
       go_upto_region 16 with fail
       obtain ⟨wo, rfl⟩ : ∃ x, x = wr := ⟨_, rfl⟩
       refine wp_region_inv (PairR wo b o k c i q x y) (fun _ _ => False) rfl (by kernel_rfl) (by kernel_rfl) ⟨Below.drew (Below.refl _ wo), fun h => (by cases h), fun h => (by cases h), fun h => (by cases h), fun h => (by cases h), fun h => (by cases h), fun h => (by cases h), fun h => (by cases h), fun h => (by cases h), fun h => (by cases h), fun h => (by cases h), fun h => (by cases h)⟩ ?_ ?_ ?_
       ·simp only [StepsI, List.nil_append, List.cons_append, Nat.zero_add, Nat.reduceAdd]
        refine ⟨?p0, ?p1, ?p2, ?p3, ?p4, ?p5, ?p6, ?p7, ?p8, ?p9, ?p10, ?p11, trivial⟩
        case p0 =>
         intro L u X hdep hlat hLi hx
         have hbX := hx.below
         have HXX := hid hx; have HDE := hid hdep; have HLA := hid hlat
         generalize hR : (fun v w' => PairR _ _ _ _ _ _ _ _ _ (setI L _) (setU u _ (gotI _ v)) w') = RR
         have HR := hid hR
         clear hR hx hdep hlat
         simp only [putsFrom, Act.put, List.setIfInBounds_toArray, List.set_cons_zero, List.set_cons_succ, Nat.zero_add, Nat.reduceAdd]
         go_wp2_with fail
         have hR := HR.out
         subst hR
         exact ⟨rfl, HXX.out.pure 0 _ (by omega) (fun e => by rfl) (fun e => by omega) (fun e => by omega) (fun e => by omega) (fun e => by omega) (fun e => by omega) (fun e => by omega) (fun e => by omega)⟩
        case p1 =>
         intro L u X hdep hlat hLi hx
         have hbX := hx.below
         have HXX := hid hx; have HDE := hid hdep; have HLA := hid hlat
         generalize hR : (fun v w' => PairR _ _ _ _ _ _ _ _ _ (setI L _) (setU u _ (gotI _ v)) w') = RR
         have HR := hid hR
         clear hR hx hdep hlat
         simp only [putsFrom, Act.put, List.setIfInBounds_toArray, List.set_cons_zero, List.set_cons_succ, Nat.zero_add, Nat.reduceAdd]
         go_wp2_with fail
         have hR := HR.out
         subst hR
         exact ⟨rfl, HXX.out.pure 1 _ (by omega) (fun e => by omega) (fun e => by rfl) (fun e => by omega) (fun e => by omega) (fun e => by omega) (fun e => by omega) (fun e => by omega) (fun e => by omega)⟩
        case p2 =>
         intro L u X hdep hlat hLi hx
         have hbX := hx.below
         have HXX := hid hx; have HDE := hid hdep; have HLA := hid hlat
         have e0 := hx.v0 (hdep 0 (by decide +kernel))
         have e1 := hx.v1 (hdep 1 (by decide +kernel))
         generalize hR : (fun v w' => PairR _ _ _ _ _ _ _ _ _ (setI L _) (setU u _ (gotI _ v)) w') = RR
         have HR := hid hR
         clear hR hx hdep hlat
         simp only [putsFrom, Act.put, List.setIfInBounds_toArray, List.set_cons_zero, List.set_cons_succ, Nat.zero_add, Nat.reduceAdd]
         simp only [e0, e1]
         clear e0
         clear e1
         go_wp2_with fail
         have hR := HR.out
         subst hR
         exact ⟨rfl, HXX.out.pure 2 _ (by omega) (fun e => by omega) (fun e => by omega) (fun e => by rfl) (fun e => by omega) (fun e => by omega) (fun e => by omega) (fun e => by omega) (fun e => by omega)⟩
        case p3 =>
         intro L u X hdep hlat hLi hx
         have hbX := hx.below
         have HXX := hid hx; have HDE := hid hdep; have HLA := hid hlat
         have e2 := hx.v2 (hdep 2 (by decide +kernel))
         have f0 := (hbX.cell (p := ⟨b, o + i * 7, none⟩) hbl).trans c0
         have f1 := (hbX.cell (p := ⟨b, o + i * 7 + 1, none⟩) hbl).trans c1
         have f2 := (hbX.cell (p := ⟨b, o + i * 7 + 2, none⟩) hbl).trans c2
         have f3 := (hbX.cell (p := ⟨b, o + i * 7 + 3, none⟩) hbl).trans c3
         have f4 := (hbX.cell (p := ⟨b, o + i * 7 + 4, none⟩) hbl).trans c4
         have f5 := (hbX.cell (p := ⟨b, o + i * 7 + 5, none⟩) hbl).trans c5
         have f6 := (hbX.cell (p := ⟨b, o + i * 7 + 6, none⟩) hbl).trans c6
         generalize hR : (fun v w' => PairR _ _ _ _ _ _ _ _ _ (setI L _) (setU u _ (gotI _ v)) w') = RR
         have HR := hid hR
         clear hR hx hdep hlat
         simp only [putsFrom, Act.put, List.setIfInBounds_toArray, List.set_cons_zero, List.set_cons_succ, Nat.zero_add, Nat.reduceAdd]
         simp only [e2]
         clear e2
         go_wp2_with fail
         have hR := HR.out
         subst hR
         exact ⟨rfl, HXX.out.pure 3 _ (by omega) (fun e => by omega) (fun e => by omega) (fun e => by omega) (fun e => by rfl) (fun e => by omega) (fun e => by omega) (fun e => by omega) (fun e => by omega)⟩
        case p4 =>
         intro L u X hdep hlat hLi hx
         have hbX := hx.below
         have HXX := hid hx; have HDE := hid hdep; have HLA := hid hlat
         generalize hR : (fun v w' => PairR _ _ _ _ _ _ _ _ _ (setI L _) (setU u _ (gotI _ v)) w') = RR
         have HR := hid hR
         clear hR hx hdep hlat
         simp only [putsFrom, Act.put, List.setIfInBounds_toArray, List.set_cons_zero, List.set_cons_succ, Nat.zero_add, Nat.reduceAdd]
         go_wp2_with fail
         have hR := HR.out
         subst hR
         exact ⟨rfl, HXX.out.pure 4 _ (by omega) (fun e => by omega) (fun e => by omega) (fun e => by omega) (fun e => by omega) (fun e => by rfl) (fun e => by omega) (fun e => by omega) (fun e => by omega)⟩
        case p5 =>
         intro L u X hdep hlat hLi hx
         have hbX := hx.below
         have HXX := hid hx; have HDE := hid hdep; have HLA := hid hlat
         generalize hR : (fun v w' => PairR _ _ _ _ _ _ _ _ _ (setI L _) (setU u _ (gotI _ v)) w') = RR
         have HR := hid hR
         clear hR hx hdep hlat
         simp only [putsFrom, Act.put, List.setIfInBounds_toArray, List.set_cons_zero, List.set_cons_succ, Nat.zero_add, Nat.reduceAdd]
         go_wp2_with fail
         have hR := HR.out
         subst hR
         exact ⟨rfl, HXX.out.pure 5 _ (by omega) (fun e => by omega) (fun e => by omega) (fun e => by omega) (fun e => by omega) (fun e => by omega) (fun e => by rfl) (fun e => by omega) (fun e => by omega)⟩
        case p6 =>
         intro L u X hdep hlat hLi hx
         have hbX := hx.below
         have HXX := hid hx; have HDE := hid hdep; have HLA := hid hlat
         have e4 := hx.v4 (hdep 4 (by decide +kernel))
         have e5 := hx.v5 (hdep 5 (by decide +kernel))
         generalize hR : (fun v w' => PairR _ _ _ _ _ _ _ _ _ (setI L _) (setU u _ (gotI _ v)) w') = RR
         have HR := hid hR
         clear hR hx hdep hlat
         simp only [putsFrom, Act.put, List.setIfInBounds_toArray, List.set_cons_zero, List.set_cons_succ, Nat.zero_add, Nat.reduceAdd]
         simp only [e4, e5]
         clear e4
         clear e5
         go_wp2_with fail
         have hR := HR.out
         subst hR
         exact ⟨rfl, HXX.out.pure 6 _ (by omega) (fun e => by omega) (fun e => by omega) (fun e => by omega) (fun e => by omega) (fun e => by omega) (fun e => by omega) (fun e => by rfl) (fun e => by omega)⟩
        case p7 =>
         intro L u X hdep hlat hLi hx
         have hbX := hx.below
         have HXX := hid hx; have HDE := hid hdep; have HLA := hid hlat
         have e6 := hx.v6 (hdep 6 (by decide +kernel))
         have f0 := (hbX.cell (p := ⟨b, o + q * 7, none⟩) hbl).trans d0
         have f1 := (hbX.cell (p := ⟨b, o + q * 7 + 1, none⟩) hbl).trans d1
         have f2 := (hbX.cell (p := ⟨b, o + q * 7 + 2, none⟩) hbl).trans d2
         have f3 := (hbX.cell (p := ⟨b, o + q * 7 + 3, none⟩) hbl).trans d3
         have f4 := (hbX.cell (p := ⟨b, o + q * 7 + 4, none⟩) hbl).trans d4
         have f5 := (hbX.cell (p := ⟨b, o + q * 7 + 5, none⟩) hbl).trans d5
         have f6 := (hbX.cell (p := ⟨b, o + q * 7 + 6, none⟩) hbl).trans d6
         generalize hR : (fun v w' => PairR _ _ _ _ _ _ _ _ _ (setI L _) (setU u _ (gotI _ v)) w') = RR
         have HR := hid hR
         clear hR hx hdep hlat
         simp only [putsFrom, Act.put, List.setIfInBounds_toArray, List.set_cons_zero, List.set_cons_succ, Nat.zero_add, Nat.reduceAdd]
         simp only [e6]
         clear e6
         go_wp2_with fail
         have hR := HR.out
         subst hR
         exact ⟨rfl, HXX.out.pure 7 _ (by omega) (fun e => by omega) (fun e => by omega) (fun e => by omega) (fun e => by omega) (fun e => by omega) (fun e => by omega) (fun e => by omega) (fun e => by rfl)⟩
        case p8 =>
         intro L u X hdep hlat hLi hx
         have hbX := hx.below
         have HXX := hid hx; have HDE := hid hdep; have HLA := hid hlat
         have h10 := hlat 10 (by decide +kernel)
         generalize hR : (fun v w' => PairR _ _ _ _ _ _ _ _ _ (setI L _) (setU u _ (gotI _ v)) w') = RR
         have HR := hid hR
         clear hR hx hdep hlat
         simp only [putsFrom, Act.put, List.setIfInBounds_toArray, List.set_cons_zero, List.set_cons_succ, Nat.zero_add, Nat.reduceAdd]
         go_wp2_with fail
         have hR := HR.out
         subst hR
         exact ⟨rfl, HXX.out.new8 h10⟩
        case p9 =>
         intro L u X hdep hlat hLi hx
         have hbX := hx.below
         have HXX := hid hx; have HDE := hid hdep; have HLA := hid hlat
         have h10 := hlat 11 (by decide +kernel)
         generalize hR : (fun v w' => PairR _ _ _ _ _ _ _ _ _ (setI L _) (setU u _ (gotI _ v)) w') = RR
         have HR := hid hR
         clear hR hx hdep hlat
         simp only [putsFrom, Act.put, List.setIfInBounds_toArray, List.set_cons_zero, List.set_cons_succ, Nat.zero_add, Nat.reduceAdd]
         go_wp2_with fail
         have hR := HR.out
         subst hR
         exact ⟨rfl, HXX.out.new9 h10⟩
        case p10 =>
         intro L u X hdep hlat hLi hx
         have hbX := hx.below
         have HXX := hid hx; have HDE := hid hdep; have HLA := hid hlat
         have e3 := hx.v3 (hdep 3 (by decide +kernel))
         have hL8 := hdep 8 (by decide +kernel)
         obtain ⟨B, hBu, hBm, hBX⟩ := hx.b8 hL8
         rw [hLi] at hBX
         have hBX : X.heap[B]? = some (.cells #[.int .i64 0, .int .i64 0, .int .i64 0, .int .i64 0, .slice none 0 0, .slice none 0 0, .slice none 0 0] 73 (0, 0)) := hBX
         have HBX := hid hBX
         have fz : X.frozen? ⟨B, 0, none⟩ = false := by rw [World.frozen?]; simp [hBX]
         have f0 : X.cell? ⟨B, 0, none⟩ = some (.int .i64 0) := by rw [cell_of_row X B 0 _ _ (0, 0) hBX]; rfl
         have f1 : X.cell? ⟨B, 1, none⟩ = some (.int .i64 0) := by rw [cell_of_row X B 1 _ _ (0, 0) hBX]; rfl
         have f2 : X.cell? ⟨B, 2, none⟩ = some (.int .i64 0) := by rw [cell_of_row X B 2 _ _ (0, 0) hBX]; rfl
         have f3 : X.cell? ⟨B, 3, none⟩ = some (.int .i64 0) := by rw [cell_of_row X B 3 _ _ (0, 0) hBX]; rfl
         have f4 : X.cell? ⟨B, 4, none⟩ = some (.slice none 0 0) := by rw [cell_of_row X B 4 _ _ (0, 0) hBX]; rfl
         have f5 : X.cell? ⟨B, 5, none⟩ = some (.slice none 0 0) := by rw [cell_of_row X B 5 _ _ (0, 0) hBX]; rfl
         have f6 : X.cell? ⟨B, 6, none⟩ = some (.slice none 0 0) := by rw [cell_of_row X B 6 _ _ (0, 0) hBX]; rfl
         have g0 : X.frozen? ⟨B, 0, none⟩ = false := by rw [World.frozen?]; simp [hBX]
         have g1 : X.frozen? ⟨B, 1, none⟩ = false := by rw [World.frozen?]; simp [hBX]
         have g2 : X.frozen? ⟨B, 2, none⟩ = false := by rw [World.frozen?]; simp [hBX]
         have g3 : X.frozen? ⟨B, 3, none⟩ = false := by rw [World.frozen?]; simp [hBX]
         have g4 : X.frozen? ⟨B, 4, none⟩ = false := by rw [World.frozen?]; simp [hBX]
         have g5 : X.frozen? ⟨B, 5, none⟩ = false := by rw [World.frozen?]; simp [hBX]
         have g6 : X.frozen? ⟨B, 6, none⟩ = false := by rw [World.frozen?]; simp [hBX]
         have hBl := (Array.getElem?_eq_some_iff.1 hBX).1
         have HBU := hid hBu
         clear hBX fz
         generalize hR : (fun v w' => PairR _ _ _ _ _ _ _ _ _ (setI L _) (setU u _ (gotI _ v)) w') = RR
         have HR := hid hR
         clear hR hx hdep hlat
         simp only [putsFrom, Act.put, List.setIfInBounds_toArray, List.set_cons_zero, List.set_cons_succ, Nat.zero_add, Nat.reduceAdd]
         simp only [e3, hBu]
         clear e3 hBu
         go_wp2_with fail
         have hR := HR.out
         subst hR
         exact ⟨rfl, HXX.out.fill10 hL8 HBU.out hBm (set7 HBX.out _ _ _ _ _ _ _).1 (set7 HBX.out _ _ _ _ _ _ _).2⟩
        case p11 =>
         intro L u X hdep hlat hLi hx
         have hbX := hx.below
         have HXX := hid hx; have HDE := hid hdep; have HLA := hid hlat
         have e7 := hx.v7 (hdep 7 (by decide +kernel))
         have hL8 := hdep 9 (by decide +kernel)
         obtain ⟨B, hBu, hBm, hBX⟩ := hx.b9 hL8
         rw [hLi] at hBX
         have hBX : X.heap[B]? = some (.cells #[.int .i64 0, .int .i64 0, .int .i64 0, .int .i64 0, .slice none 0 0, .slice none 0 0, .slice none 0 0] 73 (0, 0)) := hBX
         have HBX := hid hBX
         have fz : X.frozen? ⟨B, 0, none⟩ = false := by rw [World.frozen?]; simp [hBX]
         have f0 : X.cell? ⟨B, 0, none⟩ = some (.int .i64 0) := by rw [cell_of_row X B 0 _ _ (0, 0) hBX]; rfl
         have f1 : X.cell? ⟨B, 1, none⟩ = some (.int .i64 0) := by rw [cell_of_row X B 1 _ _ (0, 0) hBX]; rfl
         have f2 : X.cell? ⟨B, 2, none⟩ = some (.int .i64 0) := by rw [cell_of_row X B 2 _ _ (0, 0) hBX]; rfl
         have f3 : X.cell? ⟨B, 3, none⟩ = some (.int .i64 0) := by rw [cell_of_row X B 3 _ _ (0, 0) hBX]; rfl
         have f4 : X.cell? ⟨B, 4, none⟩ = some (.slice none 0 0) := by rw [cell_of_row X B 4 _ _ (0, 0) hBX]; rfl
         have f5 : X.cell? ⟨B, 5, none⟩ = some (.slice none 0 0) := by rw [cell_of_row X B 5 _ _ (0, 0) hBX]; rfl
         have f6 : X.cell? ⟨B, 6, none⟩ = some (.slice none 0 0) := by rw [cell_of_row X B 6 _ _ (0, 0) hBX]; rfl
         have g0 : X.frozen? ⟨B, 0, none⟩ = false := by rw [World.frozen?]; simp [hBX]
         have g1 : X.frozen? ⟨B, 1, none⟩ = false := by rw [World.frozen?]; simp [hBX]
         have g2 : X.frozen? ⟨B, 2, none⟩ = false := by rw [World.frozen?]; simp [hBX]
         have g3 : X.frozen? ⟨B, 3, none⟩ = false := by rw [World.frozen?]; simp [hBX]
         have g4 : X.frozen? ⟨B, 4, none⟩ = false := by rw [World.frozen?]; simp [hBX]
         have g5 : X.frozen? ⟨B, 5, none⟩ = false := by rw [World.frozen?]; simp [hBX]
         have g6 : X.frozen? ⟨B, 6, none⟩ = false := by rw [World.frozen?]; simp [hBX]
         have hBl := (Array.getElem?_eq_some_iff.1 hBX).1
         have HBU := hid hBu
         clear hBX fz
         generalize hR : (fun v w' => PairR _ _ _ _ _ _ _ _ _ (setI L _) (setU u _ (gotI _ v)) w') = RR
         have HR := hid hR
         clear hR hx hdep hlat
         simp only [putsFrom, Act.put, List.setIfInBounds_toArray, List.set_cons_zero, List.set_cons_succ, Nat.zero_add, Nat.reduceAdd]
         simp only [e7, hBu]
         clear e7 hBu
         go_wp2_with fail
         have hR := HR.out
         subst hR
         exact ⟨rfl, HXX.out.fill11 hL8 HBU.out hBm (set7 HBX.out _ _ _ _ _ _ _).1 (set7 HBX.out _ _ _ _ _ _ _).2⟩
       ·intro L u X hall hx
        have hbX := hx.below
        obtain ⟨B8, e8, m8, h8⟩ := hx.b8 (hall 8 (by decide))
        obtain ⟨B9, e9, m9, h9⟩ := hx.b9 (hall 9 (by decide))
        rw [hall 10 (by decide)] at h8
        rw [hall 11 (by decide)] at h9
        have k8 : DBoxH X B8 x := h8
        have k9 : DBoxH X B9 y := h9
        have e0 := hx.v0 (hall 0 (by decide))
        have e1 := hx.v1 (hall 1 (by decide))
        have e2 := hx.v2 (hall 2 (by decide))
        have e3 := hx.v3 (hall 3 (by decide))
        have e4 := hx.v4 (hall 4 (by decide))
        have e5 := hx.v5 (hall 5 (by decide))
        have e6 := hx.v6 (hall 6 (by decide))
        have e7 := hx.v7 (hall 7 (by decide))
        simp only [putsFrom, Act.put, List.setIfInBounds_toArray, List.set_cons_zero, List.set_cons_succ, Nat.zero_add, Nat.reduceAdd]
        simp only [e0, e1, e2, e3, e4, e5, e6, e7, e8, e9]
        clear e0 e1 e2 e3 e4 e5 e6 e7 e8 e9 hx hall h8 h9
        have HB8 := hid k8; have HB9 := hid k9
        have hbX1 := hbq.trans (hbX.mono hbq.size)
        clear k8 k9 hbX m8 m9 c0 c1 c2 c3 c4 c5 c6 d0 d1 d2 d3 d4 d5 d6 hbq hszq
        have hszX := hbX1.size
        have x0 : X.cell? ⟨B8, 0, none⟩ = some (.int .i64 x.num) := HB8.out.box.2 0 _ rfl
        have x3 : X.cell? ⟨B8, 3, none⟩ = some (.int .i64 x.s.s2) := HB8.out.box.2 3 _ rfl
        have y0 : X.cell? ⟨B9, 0, none⟩ = some (.int .i64 y.num) := HB9.out.box.2 0 _ rfl
        have y3 : X.cell? ⟨B9, 3, none⟩ = some (.int .i64 y.s.s2) := HB9.out.box.2 3 _ rfl
        have hl8 := HB8.out.box.1
        have hl9 := HB9.out.box.1
        have goOn : refPair h i q = true → Hid (∀ k', k' < q + 1 → refPair h i k' = true) := fun hp => hid fun k' hk' => by
         by_cases hkq : k' < q
         ·exact HRQ.out k' hkq
         ·obtain rfl : k' = q := by omega
          exact hp
        rw [HPR.out, pairOk_eq] at goOn
        by_cases r1 : y.num ≤ x.s.s2
        ·have HG := goOn (by rw [decide_eq_true r1]; rfl)
         clear goOn
         go_wp2_with fail
         go_roundw
         case rel => exact ⟨q + 1, by go_num, by omega, HG, hbX1⟩
         case measure => simp [intOf]; omega
        by_cases r2 : x.num ≤ y.s.s2
        ·have HG := goOn (by rw [decide_eq_true r2]; simp)
         clear goOn
         go_wp2_with fail
         go_roundw
         case rel => exact ⟨q + 1, by go_num, by omega, HG, hbX1⟩
         case measure => simp [intOf]; omega
        rw [decide_eq_false r1, decide_eq_false r2, Bool.false_or, Bool.false_or] at goOn
        have HPR2 : Hid (refPair h i q = !bothV h x y) := hid (by rw [HPR.out, pairOk_eq, decide_eq_false r1, decide_eq_false r2]; rfl)
        have GO := hid goOn
        have HWX := hid fun key W (hb : Below w1.heap.size w1 W) => refWrites_any x.s key W (HSX.out.below (hbw1.trans (hb.mono hbw1.size)))
        have HWY := hid fun key W (hb : Below w1.heap.size w1 W) => refWrites_any y.s key W (HSY.out.below (hbw1.trans (hb.mono hbw1.size)))
        clear goOn HSY
        go_upto_region 19 with fail
        clear x0 x3 y0 y3 hl8 hl9
        go_loopw [10] (fun t10 wz => ∃ j : Nat, t10 = .int .i64 (j : Nat) ∧ j ≤ m ∧ Hid (∀ key ∈ (keysV h).take j, (x.s.writes key && y.s.writes key) = false) ∧ Below X.heap.size X wz) (fun t10 _ => m - (intOf t10).toNat)
        case atStart => exact ⟨0, rfl, Nat.zero_le _, hid fun key hk => by simp at hk, Below.refl _ _⟩
        case round =>
         obtain ⟨j, rfl, hj, HJ, hbj⟩ := hrel
         have hbj1 := hbX1.trans (hbj.mono hszX)
         have hszj := hbj1.size
         by_cases hjm : j < m
         ·have hjm' : (j : Int) < (m : Int) := by omega
          have hjw : j < (keysV h).length := by rw [← HML.out]; exact hjm
          have hky : Hid ((keysV h)[j]? = some ((keysV h)[j]?.getD 0)) := hid (fl_some hjw)
          rcases (HK.out.below hbj1).row with h0 | ⟨g, qq, hag, hgl, hgc⟩
          ·rw [h0] at hjw; simp at hjw
          have hgc := hgc j hjw
          subst hag
          clear hjw
          generalize (keysV h)[j]?.getD 0 = key at *
          have hB8 := (HB8.out.below hbj).box
          have hB9 := (HB9.out.below hbj).box
          have f1 := hB8.2 1 _ rfl
          have f2 := hB8.2 2 _ rfl
          have f3 := hB8.2 3 _ rfl
          have f4 := hB8.2 4 _ rfl
          have f5 := hB8.2 5 _ rfl
          have f6 := hB8.2 6 _ rfl
          have g1 := hB9.2 1 _ rfl
          have g2 := hB9.2 2 _ rfl
          have g3 := hB9.2 3 _ rfl
          have g4 := hB9.2 4 _ rfl
          have g5 := hB9.2 5 _ rfl
          have g6 := hB9.2 6 _ rfl
          have hl8 := hB8.1
          have hl9 := hB9.1
          clear hB8 hB9
          obtain ⟨bx, hbx⟩ : ∃ bx, x.s.writes key = bx := ⟨_, rfl⟩
          obtain ⟨by', hby⟩ : ∃ by', y.s.writes key = by' := ⟨_, rfl⟩
          have HW1 := fun W (hb : Below wr.heap.size wr W) => HWX.out key W (hbj1.trans (hb.mono hszj))
          have HW2 := fun W (hb : Below wr.heap.size wr W) => HWY.out key W (hbj1.trans (hb.mono hszj))
          rw [hbx] at HW1
          rw [hby] at HW2
          have HBX := hid hbx; have HBY := hid hby
          clear hbx hby
          have next : (bx && by') = false → Hid (∀ key' ∈ (keysV h).take (j + 1), (x.s.writes key' && y.s.writes key') = false) := fun hh => hid fun key' hk' => by
           rw [List.take_add_one, hky.out] at hk'
           rcases List.mem_append.1 hk' with h1 | h1
           ·exact HJ.out key' h1
           ·have : key' = key := by simpa using h1
            subst this
            rw [HBX.out, HBY.out]; exact hh
          cases bx
          ·have HN2 := next rfl
           clear next HW2
           go_upto_region 21 with fail
           (refine wp_region_ext (by kernel_rfl) (by kernel_rfl) ?_; (repeat (go_big_quiet_step (first | (go_at_call 38; with_reducible exact Calls.ext_of (HW1 _ (Ext.b _)))))); refine wpQuiet_nil ?_; rintro w2 ⟨x2, hx2⟩; have hb2 := x2.b; rw [← hx2] at hb2; clear hx2 x2; obtain ⟨hc2, hf2⟩ := bcell hb2; (try simp only [World.heap_drewN, World.cell?_drewN, World.frozen?_drewN] at hc2 hf2); have hz2 := hb2.size; (try simp at hz2); (try have hy2_0 : w.heap.size < w2.heap.size := by omega); (try have hy2_1 : w.heap.size + 1 < w2.heap.size := by omega); (try have hx2_0 : w.heap.size ≤ w2.heap.size := by omega); (try have hx2_1 : w.heap.size + 1 ≤ w2.heap.size := by omega))
           go_wp2_with fail
           have hb9 := hbj.trans (hb2.mono hbj.size)
           go_roundw
           case rel => exact ⟨j + 1, by go_num, by omega, HN2, hb9⟩
           case measure => simp [intOf]; omega
          ·cases by'
           ·have HN2 := next rfl
            clear next
            go_upto_region 21 with fail
            (refine wp_region_ext (by kernel_rfl) (by kernel_rfl) ?_; (repeat (go_big_quiet_step (first | (go_at_call 38; with_reducible exact Calls.ext_of (HW1 _ (Ext.b _))) | (go_at_call 38; with_reducible exact Calls.ext_of (HW2 _ (Ext.b _)))))); refine wpQuiet_nil ?_; rintro w2 ⟨x2, hx2⟩; have hb2 := x2.b; rw [← hx2] at hb2; clear hx2 x2; obtain ⟨hc2, hf2⟩ := bcell hb2; (try simp only [World.heap_drewN, World.cell?_drewN, World.frozen?_drewN] at hc2 hf2); have hz2 := hb2.size; (try simp at hz2); (try have hy2_0 : w.heap.size < w2.heap.size := by omega); (try have hy2_1 : w.heap.size + 1 < w2.heap.size := by omega); (try have hx2_0 : w.heap.size ≤ w2.heap.size := by omega); (try have hx2_1 : w.heap.size + 1 ≤ w2.heap.size := by omega))
            go_wp2_with fail
            have hb9 := hbj.trans (hb2.mono hbj.size)
            go_roundw
            case rel => exact ⟨j + 1, by go_num, by omega, HN2, hb9⟩
            case measure => simp [intOf]; omega
           ·have hvf : v = false := by
             rw [← HV.out, List.all_eq_false]
             refine ⟨i, List.mem_range.2 hil, ?_⟩
             rw [Bool.not_eq_true, List.all_eq_false]
             refine ⟨q, List.mem_range.2 hql, ?_⟩
             rw [HPR2.out, show bothV h x y = true from List.any_eq_true.2 ⟨key, List.mem_of_getElem? hky.out, by rw [HBX.out, HBY.out]; rfl⟩]
             simp
            subst hvf
            clear next HV
            go_upto_region 21 with fail
            (refine wp_region_ext (by kernel_rfl) (by kernel_rfl) ?_; (repeat (go_big_quiet_step (first | (go_at_call 38; with_reducible exact Calls.ext_of (HW1 _ (Ext.b _))) | (go_at_call 38; with_reducible exact Calls.ext_of (HW2 _ (Ext.b _)))))); refine wpQuiet_nil ?_; rintro w2 ⟨x2, hx2⟩; have hb2 := x2.b; rw [← hx2] at hb2; clear hx2 x2; obtain ⟨hc2, hf2⟩ := bcell hb2; (try simp only [World.heap_drewN, World.cell?_drewN, World.frozen?_drewN] at hc2 hf2); have hz2 := hb2.size; (try simp at hz2); (try have hy2_0 : w.heap.size < w2.heap.size := by omega); (try have hy2_1 : w.heap.size + 1 < w2.heap.size := by omega); (try have hx2_0 : w.heap.size ≤ w2.heap.size := by omega); (try have hx2_1 : w.heap.size + 1 ≤ w2.heap.size := by omega))
            go_wp2_with fail
            have hb9 := hbj1.trans (hb2.mono hszj)
            have hfin := hbw1.trans (hb9.mono hbw1.size)
            go_ret
            exact ⟨rfl, hfin⟩
         ·obtain rfl : j = m := by omega
          have hge5 : ¬ (j : Int) < (j : Int) := by omega
          have hbf : bothV h x y = false := by
           unfold bothV
           rw [List.any_eq_false]
           intro key hkey
           rw [HJ.out key (by rw [HML.out, List.take_length]; exact hkey)]; simp
          have HG := GO.out (by rw [hbf]; rfl)
          clear hbf GO
          go_wp2_with fail
          go_roundw
          case rel => exact ⟨q + 1, by go_num, by omega, HG, hbj1⟩
          case measure => simp [intOf]; omega
       ·exact fun _ _ _ _ hx => hx.elim
      ·obtain rfl : q = i := by omega
       have hge2 : ¬ (q : Int) < (q : Int) := by omega
       go_wp2_with fail
       go_roundw
       case rel => exact ⟨q + 1, by go_num, by omega, hid fun i' hi' k' hk' => by
         by_cases hii : i' < q
         ·exact HRI.out i' hii k' hk'
         ·obtain rfl : i' = q := by omega
          exact HRQ.out k' hk', hbq⟩
       case measure => simp [intOf]; omega
    ·obtain rfl : i = k := by omega
     have hge2 : ¬ (i : Int) < (i : Int) := by omega
     have hvt : v = true := by
      rw [← HV.out, List.all_eq_true]
      intro i' hi'
      rw [List.all_eq_true]
      exact fun k' hk' => HRI.out i' (List.mem_range.1 hi') k' (List.mem_range.1 hk')
     have hfin := hbw1.trans (hbi.mono hbw1.size)
     subst hvt
     go_wp2_with fail
     go_ret
     exact ⟨rfl, hfin⟩
end Go.Proofs.YtekmadgacepdfaaGreat.T
