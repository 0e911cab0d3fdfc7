/- Several texts as one: NoteC NoteV. -/
import Derived.Test.YtdeeoddacnealaaGreatMNL
set_option linter.unusedVariables false
namespace Go.Proofs.YtdeeoddacnealaaGreat
open Go.RowKit

section
variable {P : Program} {l : List Oper} {md : Region.Mode}

def doesUponX (P:Program) (R:Value→World→Prop) (X:List PanicEntry→World→Prop):Result Next→Prop
 | .ok (.value u) w'=>R u w'
 | .ok .skip w'=>R undef w'
 | .ok (.enter f args) w'=>Calls P f args w' fun e w''=>(∃ u,e=.returned u∧R u w'')∨∃ c,e=.panicked c∧X c w''
 | .ok (.row row args) w'=>Rows P row args w' R
 | .halt (.panic v) w'=>X [{ v,recovered:=false }] w'
 | _=>False
def Oper.doesX (P:Program) (o:Oper) (a:Act) (w:World) (R:Value→World→Prop) (X:List PanicEntry→World→Prop):Prop:=doesUponX P R X ((execOp a.eval o).run P w)
theorem wp_of_doesX {o:Oper} {a:Act} {w:World} {R:Value→World→Prop} {X:List PanicEntry→World→Prop} {K:Act→World→Prop} {Q:Exit→Act→World→Prop}
  (h:Oper.doesX P o a w R X) (hK:∀ u w',R u w'→K (a.put o.dst u) w') (hX:∀ c w',X c w'→Q (.panic c) a w'):o.wp P a w K Q:=by
 unfold Oper.doesX at h
 unfold Oper.wp
 generalize (execOp a.eval o).run P w=r at *
 cases r with
 | ok x w' =>
  cases x <;> simp only [doesUponX] at h <;> simp only [Oper.upon]
  case value u=>exact hK _ _ h
  case skip=>exact hK _ _ h
  case enter f args =>
   refine h.mono fun e w'' he=>?_
   rcases he with ⟨u,he,hR⟩|⟨c,he,hR⟩
   ·subst he;exact hK _ _ hR
   ·subst he;exact hX _ _ hR
  case row row args=>exact h.mono fun v w'' hR=>hK _ _ hR
 | halt x w' =>
  cases x <;> simp only [doesUponX] at h
  case panic v=>simp only [Oper.upon];exact hX _ _ h
def postX (R:Value→World→Prop) (X:List PanicEntry→World→Prop) (d:Option Nat) (ds:List Deferred):Exit→Act→World→Prop
 | .normal,a,w=>a.defers=ds∧R ((d.map fun d=>a.tmps.getD d undef).getD undef) w
 | .panic c,_,w=>X c w
 | _,_,_=>False
theorem doesX_of_wp {o:Oper} {a:Act} {w:World} {R:Value→World→Prop} {X:List PanicEntry→World→Prop} (hlt:∀ d,o.dst=some d→d<a.tmps.size) (hnone:o.dst=none→∀ v w',R undef w'→R v w') (hg:o.guard=none)
  (h:wpList P #[] (postX R X o.dst a.defers) [o] a w):Oper.doesX P o a w R X:=by
 have hw:Region.wanted o (yielded #[] a.tmps)=true:=by unfold Region.wanted;rw [hg]
 unfold wpList at h
 rw [if_pos hw] at h
 rcases h with h|⟨_,_,_,h⟩
 ·have got:∀ v w',(postX R X o.dst a.defers .normal (a.put o.dst v) w')→R v w':=fun v w' h=>by
   have h2:=h.2
   cases hd:o.dst with
   | none=>rw [hd] at h2;exact hnone hd _ _ h2
   | some d =>
    rw [hd] at h2
    have e:(a.put (some d) v).tmps.getD d undef=v:=by rw [Array.getD_eq_getD_getElem?,put_self (hlt d hd)];rfl
    simp only [Option.map_some,Option.getD_some] at h2
    rwa [e] at h2
  unfold Oper.wp at h
  unfold Oper.doesX
  generalize (execOp a.eval o).run P w=r at *
  cases r with
  | ok x w' =>
   cases x <;> simp only [Oper.upon] at h <;> simp only [doesUponX]
   case value u=>exact got _ _ h
   case skip=>exact got _ _ h
   case enter f args =>
    refine h.mono fun e w'' h'=>?_
    cases e with
    | returned v=>exact .inl ⟨v,rfl,got _ _ h'⟩
    | panicked c=>exact .inr ⟨c,rfl,h'⟩
    | outgrown=>obtain ⟨_,_,h3⟩:=h';exact h3.elim
   case row row args=>exact h.mono fun v w'' h'=>got _ _ h'
   case defer d=>have:=congrArg List.length h.1;cases hd:o.dst <;> rw [hd] at this <;> simp [Act.put] at this
  | halt x w' =>
   cases x <;> simp only [Oper.upon,postX] at h
   case panic v=>exact h
 ·exact h.elim

def dstC (l:List Oper) (sz:Nat):Bool :=
 (List.range l.length).all fun i=>match (l[i]?).bind (·.dst) with
  | some d=>decide (d<sz) && (List.range l.length).all fun j=>decide (i=j)||decide ((l[j]?).bind (·.dst)≠some d)
  | none=>true
def reach (md:Region.Mode) (l:List Oper):Nat→Nat→Nat→Bool
 | 0,_,_=>false
 | f+1,q,p=>match l[q]? with
  | none=>false
  | some o=>o.after.any fun e=>Region.binds md e && (decide (e.on=p)||reach md l f e.on p)
def indepC (md:Region.Mode) (l:List Oper):Bool :=
 (List.range l.length).all fun i=>match l[i]? with
  | some o=>o.guard.isNone && (match o.op with | .select _ _=>false|_=>true) && (o.after.all fun e=>!Region.binds md e||decide (e.on<i)) && o.op.operands.all fun x=>match x with
   | .tmp t=>(List.range l.length).all fun j=>decide ((l[j]?).bind (·.dst)≠some t)||(o.after.any fun e=>Region.binds md e && decide (e.on=j))||reach md l l.length j i
   | _=>true
  | none=>false
def closedL (md:Region.Mode) (l:List Oper) (L:Array Bool):Prop:=∀ i o,l[i]? = some o→L.getD i false=true→∀ e∈o.after,Region.binds md e=true→L.getD e.on false=true
theorem reach_done {L:Array Bool} (hc:closedL md l L):∀ {f q p:Nat},reach md l f q p=true→L.getD q false=true→L.getD p false=true
 | f+1,q,p,h,hq=>by
  unfold reach at h
  cases ho:l[q]? with
  | none=>rw [ho] at h;cases h
  | some o =>
   rw [ho] at h
   simp only at h
   obtain ⟨e,he,h2⟩:=Array.any_eq_true'.1 h
   simp only [Bool.and_eq_true,Bool.or_eq_true,decide_eq_true_eq] at h2
   have h3:=hc q o ho hq e he h2.1
   rcases h2.2 with rfl|h4
   ·exact h3
   ·exact reach_done hc h4 h3
def spanC (md:Region.Mode) (l:List Oper) (ch:List Nat) (i:Nat):Nat×Nat :=
 ((ch.filter fun m=>reach md l l.length i m).length,ch.length-(ch.filter fun m=>decide (m=i)||reach md l l.length m i).length)
def cntL (ch:List Nat) (L:Array Bool):Nat:=(ch.filter fun m=>L.getD m false).length
theorem filter_len_mono {α:Type} {p q:α→Bool} {ch:List α} (h:∀ m∈ch,p m=true→q m=true):(ch.filter p).length≤(ch.filter q).length:=by
 induction ch with
 | nil=>simp
 | cons m ch ih =>
  have ih:=ih fun x hx=>h x (List.mem_cons_of_mem _ hx)
  have hm:=h m (List.mem_cons_self ..)
  rw [List.filter_cons,List.filter_cons]
  cases hp:p m
  ·cases q m <;> simp <;> omega
  ·rw [hm hp];simp;omega
theorem filter_len_not {α:Type} (p:α→Bool) (ch:List α):(ch.filter p).length+(ch.filter fun m=>!p m).length=ch.length:=by
 induction ch with
 | nil=>rfl
 | cons m ch ih =>
  rw [List.filter_cons,List.filter_cons]
  cases p m <;> simp <;> omega
theorem cnt_span {ch:List Nat} {L:Array Bool} {i:Nat} {o:Oper} (hc:closedL md l L) (ho:l[i]? = some o) (hi:L.getD i false=false) (hdep:∀ e∈o.after,Region.binds md e=true→L.getD e.on false=true) :
  (spanC md l ch i).1≤cntL ch L∧cntL ch L≤(spanC md l ch i).2:=by
 refine ⟨filter_len_mono fun m _ hr=>?_,?_⟩
 ·cases hl:l.length with
  | zero=>rw [hl] at hr;simp [reach] at hr
  | succ f =>
   rw [hl] at hr
   unfold reach at hr
   rw [ho] at hr
   simp only at hr
   obtain ⟨e,he,h2⟩:=Array.any_eq_true'.1 hr
   simp only [Bool.and_eq_true,Bool.or_eq_true,decide_eq_true_eq] at h2
   have h3:=hdep e he h2.1
   rcases h2.2 with rfl|h4
   ·exact h3
   ·exact reach_done hc h4 h3
 ·have h1:=filter_len_not (fun m=>L.getD m false) ch
  have h2:(ch.filter fun m=>decide (m=i)||reach md l l.length m i).length≤(ch.filter fun m=>!L.getD m false).length:=filter_len_mono fun m _ hm=>by
   rw [Bool.or_eq_true,decide_eq_true_eq] at hm
   cases hL:L.getD m false with
   | false=>rfl
   | true =>
    rcases hm with rfl|hm
    ·rw [hi] at hL;cases hL
    ·rw [reach_done hc hm hL] at hi;cases hi
  show (ch.filter fun m=>L.getD m false).length≤ch.length-_
  omega
theorem getD_set_eq {L:Array Bool} {i:Nat} (hi:i<L.size):(L.setIfInBounds i true).getD i false=true:=by rw [Array.getD_eq_getD_getElem?,Array.getElem?_setIfInBounds_self_of_lt hi];rfl
theorem cnt_set {ch:List Nat} (hnd:ch.Nodup) {L:Array Bool} {i:Nat} (hi:i<L.size) (hL:L.getD i false=false):cntL ch (L.setIfInBounds i true)=cntL ch L+(if i∈ch then 1 else 0):=by
 unfold cntL
 induction ch with
 | nil=>simp
 | cons m ch ih =>
  obtain ⟨h1,h2⟩:=List.nodup_cons.1 hnd
  have ih:=ih h2
  rw [List.filter_cons,List.filter_cons]
  by_cases e:m=i
  ·subst e
   rw [if_neg h1] at ih
   rw [getD_set_eq hi,hL,if_pos rfl,if_neg (by decide),if_pos (List.mem_cons_self ..),List.length_cons,ih]
  ·have:(L.setIfInBounds i true).getD m false=L.getD m false:=getD_set_ne false (Ne.symm e)
   rw [this]
   have hm:(i∈m :: ch)↔i∈ch:=by simp [Ne.symm e]
   simp only [hm]
   cases L.getD m false with
   | false=>rw [if_neg (by decide),if_neg (by decide),ih]
   | true=>rw [if_pos rfl,if_pos rfl,List.length_cons,List.length_cons,ih];omega

structure CNotes (md:Region.Mode) (l:List Oper) (ch:List Nat) (u:Nat→Value) (R:Nat→World→Prop) (a0:Act) (L:Array Bool) (a:Act) (w:World):Prop where
 cls:R (cntL ch L) w
 closed:closedL md l L
 defers:a.defers=a0.defers
 size:a.tmps.size=a0.tmps.size
 rest:∀ k,(∀ i,i<l.length→(l[i]?).bind (·.dst)=some k→L.getD i false=false)→a.tmps[k]? = a0.tmps[k]?
 note:∀ i d,i<l.length→L.getD i false=true→(l[i]?).bind (·.dst)=some d→a.tmps[d]? = some (u i)
theorem dstC_spec {sz:Nat} (h:dstC l sz=true) {i d:Nat} (hi:i<l.length) (hd:(l[i]?).bind (·.dst)=some d):d<sz∧∀ j,j<l.length→i≠j→(l[j]?).bind (·.dst)≠some d:=by
 have h1:=List.all_eq_true.1 h i (List.mem_range.2 hi)
 rw [hd] at h1
 simp only [Bool.and_eq_true,decide_eq_true_eq] at h1
 refine ⟨h1.1,fun j hj hne=>?_⟩
 have h2:=List.all_eq_true.1 h1.2 j (List.mem_range.2 hj)
 simp only [Bool.or_eq_true,decide_eq_true_eq] at h2
 exact h2.resolve_left hne
theorem indepC_spec {i:Nat} {o:Oper} (h:indepC md l=true) (ho:l[i]? = some o) :
  o.guard=none∧(∀ cs b,o.op≠.select cs b)∧(∀ e∈o.after,Region.binds md e=true→e.on<i∧True)∧∀ t,.tmp t∈o.op.operands→∀ j,j<l.length→(l[j]?).bind (·.dst)=some t→(∃ e∈o.after,Region.binds md e=true∧e.on=j)∨reach md l l.length j i=true:=by
 have hi:i<l.length:=(List.getElem?_eq_some_iff.1 ho).1
 have h1:=List.all_eq_true.1 h i (List.mem_range.2 hi)
 rw [ho] at h1
 simp only [Bool.and_eq_true] at h1
 obtain ⟨⟨⟨h2,h3⟩,h4⟩,h5⟩:=h1
 refine ⟨by simpa using h2,fun cs b e=>(by rw [e] at h3;cases h3),fun e he hb=>?_,fun t ht j hj hd=>?_⟩
 ·have:=Array.all_eq_true'.1 h4 e he
  rw [hb] at this
  simp only [Bool.not_true,Bool.false_or,decide_eq_true_eq] at this
  exact ⟨this,trivial⟩
 ·have:=Array.all_eq_true'.1 h5 _ ht
  simp only at this
  have:=List.all_eq_true.1 this j (List.mem_range.2 hj)
  simp only [Bool.or_eq_true,decide_eq_true_eq] at this
  rcases this with (h|h)|h
  ·exact absurd hd h
  ·obtain ⟨e,he,h6⟩:=Array.any_eq_true'.1 h
   simp only [Bool.and_eq_true,decide_eq_true_eq] at h6
   exact .inl ⟨e,he,h6.1,h6.2⟩
  ·exact .inr h
theorem reach_lt (hI:indepC md l=true):∀ {f q p:Nat},reach md l f q p=true→p<q
 | f+1,q,p,h=>by
  unfold reach at h
  cases ho:l[q]? with
  | none=>rw [ho] at h;cases h
  | some o =>
   rw [ho] at h
   simp only at h
   obtain ⟨e,he,h2⟩:=Array.any_eq_true'.1 h
   simp only [Bool.and_eq_true,Bool.or_eq_true,decide_eq_true_eq] at h2
   have h3:=((indepC_spec hI ho).2.2.1 e he h2.1).1
   rcases h2.2 with rfl|h4
   ·exact h3
   ·exact Nat.lt_trans (reach_lt hI h4) h3
theorem CNotes.step {ch:List Nat} {u:Nat→Value} {R:Nat→World→Prop} {a0:Act} {L:Array Bool} {a:Act} {w w':World} {i:Nat} {o:Oper} {v:Value} (hnd:ch.Nodup)
  (h:CNotes md l ch u R a0 L a w) (hd:dstC l a0.tmps.size=true) (ho:l[i]? = some o) (hL:i<L.size) (hLi:L.getD i false=false) (hdep:∀ e∈o.after,Region.binds md e=true→L.getD e.on false=true)
  (hv:o.dst≠none→v=u i) (hR:R (cntL ch L+(if i∈ch then 1 else 0)) w') :
  CNotes md l ch u R a0 (L.setIfInBounds i true) (a.put o.dst v) w':=by
 have hi:i<l.length:=(List.getElem?_eq_some_iff.1 ho).1
 refine ⟨by rw [cnt_set hnd hL hLi];exact hR,?_,?_,?_,?_,?_⟩
 ·intro j q hq hj e he hb
  by_cases ee:e.on=i
  ·rw [ee];exact getD_set_eq hL
  ·rw [getD_set_ne false (Ne.symm ee)]
   by_cases ej:j=i
   ·subst ej
    rw [ho] at hq;cases hq
    exact hdep e he hb
   ·rw [getD_set_ne false (Ne.symm ej)] at hj
    exact h.closed j q hq hj e he hb
 ·cases o.dst <;> exact h.defers
 ·cases o.dst with
  | none=>exact h.size
  | some d=>simp only [Act.put,Array.size_setIfInBounds];exact h.size
 ·intro k hk
  have hk':∀ j,j<l.length→(l[j]?).bind (·.dst)=some k→L.getD j false=false:=fun j hj e=>by
   have:=hk j hj e
   by_cases ej:j=i
   ·subst ej;exact hLi
   ·rwa [getD_set_ne false (Ne.symm ej)] at this
  cases hdo:o.dst with
  | none=>exact h.rest k hk'
  | some d =>
   have hne:d≠k:=fun e=>by
    have:=hk i hi (by rw [ho];subst e;exact hdo)
    rw [getD_set_eq hL] at this
    cases this
   rw [put_at hne];exact h.rest k hk'
 ·intro j d hj hl hdj
  by_cases ej:j=i
  ·subst ej
   have hdo:o.dst=some d:=by rw [ho] at hdj;exact hdj
   rw [hdo,hv (by rw [hdo];simp)]
   exact put_self (by rw [h.size];exact (dstC_spec hd hi hdj).1)
  ·rw [getD_set_ne false (Ne.symm ej)] at hl
   have hold:=h.note j d hj hl hdj
   cases hdo:o.dst with
   | none=>exact hold
   | some d' =>
    have hne:d'≠d:=fun e=>(dstC_spec hd hj hdj).2 i hi ej (by rw [ho];subst e;exact hdo)
    rw [put_at hne];exact hold

def StepC (P:Program) (u:Nat→Value) (R:Nat→World→Prop) (X:List PanicEntry→World→Prop) (all:List Oper) (ch:List Nat) (a0:Act) (pre:List Oper) (o:Oper):Prop :=
 ∀ (j:Nat) (x:World),(spanC .any all ch pre.length).1≤j→j≤(spanC .any all ch pre.length).2→R j x →
  wpList P #[] (postX (fun v w'=>(o.dst≠none→v=u pre.length)∧R (j+(if pre.length∈ch then 1 else 0)) w') X o.dst a0.defers) [o] (putsFrom u 0 pre a0) x
def StepsC (P:Program) (u:Nat→Value) (R:Nat→World→Prop) (X:List PanicEntry→World→Prop) (all:List Oper) (ch:List Nat) (a0:Act):List Oper→List Oper→Prop
 | _,[]=>True
 | pre,o :: os=>StepC P u R X all ch a0 pre o∧StepsC P u R X all ch a0 (pre++[o]) os
theorem StepsC.at {u:Nat→Value} {R:Nat→World→Prop} {X:List PanicEntry→World→Prop} {all:List Oper} {ch:List Nat} {a0:Act}:∀ {os pre:List Oper} {i:Nat} {o:Oper},StepsC P u R X all ch a0 pre os→os[i]? = some o→StepC P u R X all ch a0 (pre++os.take i) o
 | [],_,_,_,_,h=>by simp at h
 | p :: os,pre,0,o,hs,h=>by
  simp at h;subst h
  simpa using hs.1
 | p :: os,pre,i+1,o,hs,h=>by
  have:=StepsC.at hs.2 (i:=i) (o:=o) (by simpa using h)
  simpa using this
theorem putsC_spec (u:Nat→Value) {a0:Act} (hd:dstC l a0.tmps.size=true):∀ m,m≤l.length→(putsFrom u 0 (l.take m) a0).tmps.size=a0.tmps.size∧(putsFrom u 0 (l.take m) a0).defers=a0.defers ∧
  (∀ j d,j<m→(l[j]?).bind (·.dst)=some d→(putsFrom u 0 (l.take m) a0).tmps[d]? = some (u j))∧(∀ k,(∀ j,j<m→(l[j]?).bind (·.dst)≠some k)→(putsFrom u 0 (l.take m) a0).tmps[k]? = a0.tmps[k]?)
 | 0,_=>by simp [putsFrom]
 | m+1,hm=>by
  have hml:m<l.length:=by omega
  obtain ⟨h1,h2,h3,h4⟩:=putsC_spec u hd m (by omega)
  obtain ⟨o,ho⟩:∃ o,l[m]? = some o:=⟨_,List.getElem?_eq_getElem hml⟩
  have e:l.take (m+1)=l.take m++[o]:=by rw [List.take_add_one,ho];rfl
  have hlen:(l.take m).length=m:=by rw [List.length_take];omega
  rw [e,putsFrom_snoc,hlen,Nat.zero_add]
  cases hdo:o.dst with
  | none =>
   refine ⟨h1,h2,fun j d hj hdj=>?_,fun k hk=>h4 k fun j hj=>hk j (by omega)⟩
   by_cases ej:j=m
   ·subst ej;rw [ho] at hdj;rw [show (some o).bind (·.dst)=o.dst from rfl,hdo] at hdj;cases hdj
   ·exact h3 j d (by omega) hdj
  | some d0 =>
   have hd0:(l[m]?).bind (·.dst)=some d0:=by rw [ho];exact hdo
   have hs:=dstC_spec hd hml hd0
   refine ⟨by simp only [Act.put,Array.size_setIfInBounds];exact h1,h2,fun j d hj hdj=>?_,fun k hk=>?_⟩
   ·by_cases ej:j=m
    ·subst ej
     rw [hd0] at hdj;cases hdj
     exact put_self (by rw [h1];exact hs.1)
    ·have hne:d0≠d:=fun e=>hs.2 j (by omega) (Ne.symm ej) (by rw [e];exact hdj)
     rw [put_at hne];exact h3 j d (by omega) hdj
   ·have hne:d0≠k:=fun e=>hk m (by omega) (by rw [←e];exact hd0)
    rw [put_at hne];exact h4 k fun j hj=>hk j (by omega)
def chainC (md:Region.Mode) (l:List Oper) (sz:Nat):Bool:=dstC l sz && indepC md l

theorem least_false {L:Array Bool} (q:Nat):L[q]? = some false→∃ k:Nat,(L[k]? = some false)∧∀ j:Nat,j<k→L[j]?≠some false:=by
 induction q using Nat.strongRecOn with
 | ind q ih =>
  intro hq
  by_cases h:∃ j:Nat,j<q∧L[j]? = some false
  ·obtain ⟨j,hj,h⟩:=h
   exact ih j hj h
  ·exact ⟨q,hq,fun j hj h'=>h ⟨j,hj,h'⟩⟩
theorem wp_region_chain {id:Nat} {Q:Exit→Act→World→Prop} {a0:Act} {w0:World} (u:Nat→Value) (R:Nat→World→Prop) (X:List PanicEntry→World→Prop) (ch:List Nat) {sz:Nat} (hsz:a0.tmps.size=sz) (hm:P.follows .mixedOrders=true) (hB:chainC .any l sz=true) (hnd:ch.Nodup) (hch:∀ m∈ch,m<l.length)
  (h0:R 0 { w0 with drawn:=w0.drawn+1 }) (hs:StepsC P u R X l ch a0 [] l) (hK:∀ x,R ch.length x→Q .normal (putsFrom u 0 l a0) x) (hX:∀ c a x,a.defers=a0.defers→X c x→Q (.panic c) a x) :
  (Code.region id l.toArray true).wp P Q a0 w0:=by
 subst hsz
 simp only [chainC,Bool.and_eq_true] at hB
 obtain ⟨hd,hin⟩:=hB
 refine wp_region_any hm ?_
 have fwd:∀ (fuel:Nat) (L:Array Bool) (a:Act) (w:World),L.size=l.length→CNotes .any l ch u R a0 L a w→(L.toList.filter (!·)).length=fuel→wpAny P .any l.toArray Q fuel L a w:=by
  intro fuel
  induction fuel with
  | zero =>
   intro L a w hz H hcnt
   have h1:∀ i,i<l.length→L[i]? = some true:=fun i hi=>by
    have:=count_zero hcnt i (by simp;omega)
    rw [Array.getElem?_toList] at this
    exact this
   have lis:∀ i,i<l.length→L.getD i false=true:=fun i hi=>by rw [Array.getD_eq_getD_getElem?,h1 i hi];rfl
   obtain ⟨p1,p2,p3,p4⟩:=putsC_spec u hd l.length (Nat.le_refl _)
   rw [List.take_length] at p1 p2 p3 p4
   have ea:a=putsFrom u 0 l a0:=by
    refine act_ext (by rw [p2];exact H.defers) (by rw [p1];exact H.size) fun k=>?_
    by_cases hj:∃ j,j<l.length∧(l[j]?).bind (·.dst)=some k
    ·obtain ⟨j,hj,hdj⟩:=hj
     rw [p3 j k hj hdj,H.note j k hj (lis j hj) hdj]
    ·have hno:∀ j,j<l.length→(l[j]?).bind (·.dst)≠some k:=fun j hj' e=>hj ⟨j,hj',e⟩
     rw [p4 k (fun j hj=>hno j hj),H.rest k (fun j hj e=>absurd e (hno j hj))]
   have hc:=H.cls
   have hcl:cntL ch L=ch.length:=by
    unfold cntL
    rw [List.filter_eq_self.2 fun m hm=>lis m (hch m hm)]
   rw [hcl] at hc
   have hq:=hK w hc
   rw [←ea] at hq
   refine ⟨?_,hq⟩
   rw [List.eq_nil_iff_forall_not_mem]
   intro i hi
   obtain ⟨h2,o,ho,_⟩:=mem_ready.1 hi
   have hil:i<l.length:=by have:=(Array.getElem?_eq_some_iff.1 ho).1;simpa using this
   rw [Array.getD_eq_getD_getElem?,h1 i hil] at h2
   simp at h2
  | succ fuel ih =>
   intro L a w hz H hcnt
   obtain ⟨q,hq⟩:=count_pos hcnt
   have hqn:q<l.length:=by have:=(List.getElem?_eq_some_iff.1 hq).1;simp at this;omega
   have hq':L[q]? = some false:=by rw [Array.getElem?_toList] at hq;exact hq
   refine ⟨fun h0=>?_,fun i hi=>?_⟩
   ·exfalso
    obtain ⟨k,hk,hkmin⟩:=least_false q hq'
    have hkl:k<l.length:=by have:=(Array.getElem?_eq_some_iff.1 hk).1;omega
    obtain ⟨o,ho⟩:∃ o,l[k]? = some o:=⟨_,List.getElem?_eq_getElem hkl⟩
    obtain ⟨_,_,hf,_⟩:=indepC_spec hin ho
    have:k∈Region.ready .any l.toArray L:=mem_ready.2 ⟨by rw [Array.getD_eq_getD_getElem?,hk];rfl,o,by simpa using ho,fun e he hb=>by
     have hlt:=(hf e he hb).1
     have hne:=hkmin e.on hlt
     have hsz:e.on<L.size:=by omega
     rw [Array.getD_eq_getD_getElem?]
     rw [Array.getElem?_eq_getElem hsz] at hne ⊢
     cases hv:L[e.on] with
     | true=>rfl
     | false=>rw [hv] at hne;exact absurd rfl hne⟩
    rw [h0] at this;cases this
   ·obtain ⟨h1,o,ho,hall⟩:=mem_ready.1 hi
    have hil:i<l.length:=by have:=(Array.getElem?_eq_some_iff.1 ho).1;simpa using this
    have hol:l[i]? = some o:=by simpa using ho
    have hLs:i<L.size:=by omega
    have hLi:L[i]? = some false:=by
     rw [Array.getElem?_eq_getElem hLs]
     simp [Array.getD_eq_getD_getElem?,Array.getElem?_eq_getElem hLs] at h1
     rw [h1]
    have hLd:L.getD i false=false:=by rw [Array.getD_eq_getD_getElem?,hLi];rfl
    obtain ⟨hg,hsel,hfw,hop⟩:=indepC_spec hin hol
    have hwt:Region.wanted o (yielded l.toArray a.tmps)=true:=by unfold Region.wanted;rw [hg]
    obtain ⟨s1,s2⟩:=cnt_span (ch:=ch) H.closed hol hLd hall
    have hst:=hs.at hol
    obtain ⟨p1,p2,p3,p4⟩:=putsC_spec u hd i (Nat.le_of_lt hil)
    have hlen:(l.take i).length=i:=by simp;omega
    unfold StepC at hst
    rw [List.nil_append,hlen] at hst
    have hwp:=hst _ w s1 s2 H.cls
    rw [←p2] at hwp
    have hdo:=doesX_of_wp (fun d hdd=>by rw [p1];exact (dstC_spec hd hil (by rw [hol];exact hdd)).1) (fun hn v w' h=>⟨fun h'=>absurd hn h',h.2⟩) hg hwp
    have hcongr:execOp a.eval o=execOp (putsFrom u 0 (l.take i) a0).eval o:=by
     refine execOp_congr o hsel fun x hx=>?_
     cases x with
     | tmp t =>
      show a.tmps.getD t undef=(putsFrom _ 0 (l.take i) a0).tmps.getD t undef
      rw [Array.getD_eq_getD_getElem?,Array.getD_eq_getD_getElem?]
      by_cases hj:∃ j,j<l.length∧(l[j]?).bind (·.dst)=some t
      ·obtain ⟨j,hj,hdj⟩:=hj
       rcases hop _ hx j hj hdj with ⟨e,he,hbd,rfl⟩|hre
       ·have hlt:=(hfw e he hbd).1
        rw [p3 e.on t hlt hdj,H.note e.on t hj (hall e he hbd) hdj]
       ·have hu:=dstC_spec hd hj hdj
        have hij:=reach_lt hin hre
        have hnr:L.getD j false=false:=by
         cases hv:L.getD j false
         ·rfl
         ·have:=reach_done H.closed hre hv
          rw [hLd] at this
          cases this
        rw [p4 t (fun j' hj' e=>hu.2 j' (by omega) (by omega) e),H.rest t (fun j' hj' e=>by
         by_cases ee:j=j'
         ·rw [←ee];exact hnr
         ·exact absurd e (hu.2 j' hj' ee))]
      ·have hno:∀ j,j<l.length→(l[j]?).bind (·.dst)≠some t:=fun j hj' e=>hj ⟨j,hj',e⟩
       rw [p4 t (fun j hj=>hno j (by omega)),H.rest t (fun j hj e=>absurd e (hno j hj))]
     | const v=>rfl
     | global g=>rfl
     | func f=>rfl
    have hdo2:Oper.doesX P o a w (fun v w'=>(o.dst≠none→v=u i)∧R (cntL ch L+(if i∈ch then 1 else 0)) w') X:=by
     unfold Oper.doesX at hdo ⊢
     rw [hcongr];exact hdo
    unfold wpOp
    rw [ho]
    dsimp only
    rw [if_pos hwt]
    refine .inl (wp_of_doesX hdo2 (fun v w' hv=>?_) (fun c w' hc=>hX c a w' H.defers hc))
    refine ih _ _ w' (by simpa using hz) (H.step hnd hd hol hLs hLd hall hv.1 hv.2) ?_
    have:=count_set L.toList i (by rw [Array.getElem?_toList];exact hLi)
    rw [Array.toList_setIfInBounds];omega
 have H0:CNotes .any l ch u R a0 (Array.replicate l.toArray.size false) a0 { w0 with drawn:=w0.drawn+1 }:=by
  refine ⟨?_,fun i o _ hi=>(by rw [getD_replicate_false] at hi;cases hi),rfl,rfl,fun _ _=>rfl,fun i d _ hl=>(by rw [getD_replicate_false] at hl;cases hl)⟩
  have:cntL ch (Array.replicate l.toArray.size false)=0:=by
   unfold cntL
   rw [List.length_eq_zero_iff,List.filter_eq_nil_iff]
   intro m _
   rw [getD_replicate_false];decide
  rw [this];exact h0
 have:=fwd l.length (Array.replicate l.toArray.size false) a0 { w0 with drawn:=w0.drawn+1 } (by simp) H0 (by simp)
 simpa using this
end

section
variable {P : Program} {l : List Oper} {md : Region.Mode}

abbrev ValsV:=List (Nat×(List Value→Value))
def uv (u:ValsV) (ms:List Value) (q:Nat):Value:=match u[q]? with
 | some (c,f)=>f (ms.take c)
 | none=>undef
def capV (u:ValsV) (q:Nat):Nat:=match u[q]? with
 | some (c,_)=>c
 | none=>0
theorem uv_more {u:ValsV} {ms ms':List Value} {q:Nat} (h:capV u q≤ms.length):uv u (ms++ms') q=uv u ms q:=by
 unfold uv capV at *
 cases hu:u[q]? with
 | none=>rfl
 | some p =>
  rw [hu] at h
  simp only at h ⊢
  rw [List.take_append_of_le_length h]
def capB (md:Region.Mode) (l:List Oper) (ch:List Nat) (u:ValsV):Bool :=
 ch.all fun i=>(List.range l.length).all fun q=>decide (q=i)||(decide (capV u q≤(spanC md l ch i).1)||reach md l l.length q i)
def gotV (o:Oper) (v:Value):Value:=if o.dst.isNone then undef else v
def moreV (ch:List Nat) (i:Nat) (o:Oper) (ms:List Value) (v:Value):List Value:=if i∈ch then ms++[gotV o v] else ms
def StepV (P:Program) (u:ValsV) (R:List Value→World→Prop) (X:List PanicEntry→World→Prop) (all:List Oper) (ch:List Nat) (a0:Act) (i:Nat) (pre:List Oper) (o:Oper):Prop :=
 ∀ (ms:List Value) (x:World),(spanC .any all ch i).1≤ms.length→ms.length≤(spanC .any all ch i).2→R ms x →
  wpList P #[] (postX (fun v w'=>(o.dst≠none→v=uv u (moreV ch i o ms v) i)∧R (moreV ch i o ms v) w') X o.dst a0.defers) [o] (putsFrom (uv u ms) 0 pre a0) x
def StepsV (P:Program) (u:ValsV) (R:List Value→World→Prop) (X:List PanicEntry→World→Prop) (all:List Oper) (ch:List Nat) (a0:Act):Nat→List Oper→List Oper→Prop
 | _,_,[]=>True
 | i,pre,o :: os=>StepV P u R X all ch a0 i pre o∧StepsV P u R X all ch a0 (i+1) (pre++[o]) os
theorem StepsV.at {u:ValsV} {R:List Value→World→Prop} {X:List PanicEntry→World→Prop} {all:List Oper} {ch:List Nat} {a0:Act}:∀ {os pre:List Oper} {k i:Nat} {o:Oper},StepsV P u R X all ch a0 k pre os→os[i]? = some o→StepV P u R X all ch a0 (k+i) (pre++os.take i) o
 | [],_,_,_,_,_,h=>by simp at h
 | p :: os,pre,k,0,o,hs,h=>by
  simp at h;subst h
  simpa using hs.1
 | p :: os,pre,k,i+1,o,hs,h=>by
  have:=StepsV.at hs.2 (i:=i) (o:=o) (by simpa using h)
  have e:k+1+i=k+(i+1):=by omega
  rw [e] at this
  simpa using this
theorem wp_region_chainV {id:Nat} {Q:Exit→Act→World→Prop} {a0:Act} {w0:World} (u:ValsV) (R:List Value→World→Prop) (X:List PanicEntry→World→Prop) (ch:List Nat) {sz:Nat} (hsz:a0.tmps.size=sz) (hm:P.follows .mixedOrders=true) (hB:chainC .any l sz=true) (hcap:capB .any l ch u=true) (hnd:ch.Nodup) (hch:∀ m∈ch,m<l.length)
  (h0:R [] { w0 with drawn:=w0.drawn+1 }) (hs:StepsV P u R X l ch a0 0 [] l) (hK:∀ ms x,ms.length=ch.length→R ms x→Q .normal (putsFrom (uv u ms) 0 l a0) x) (hX:∀ c a x,a.defers=a0.defers→X c x→Q (.panic c) a x) :
  (Code.region id l.toArray true).wp P Q a0 w0:=by
 subst hsz
 simp only [chainC,Bool.and_eq_true] at hB
 obtain ⟨hd,hin⟩:=hB
 refine wp_region_any hm ?_
 have fwd:∀ (fuel:Nat) (L:Array Bool) (a:Act) (w:World) (ms:List Value),L.size=l.length→CNotes .any l ch (uv u ms) (fun _ _=>True) a0 L a w→ms.length=cntL ch L→R ms w→(L.toList.filter (!·)).length=fuel→wpAny P .any l.toArray Q fuel L a w:=by
  intro fuel
  induction fuel with
  | zero =>
   intro L a w ms hz H hml HR hcnt
   have h1:∀ i,i<l.length→L[i]? = some true:=fun i hi=>by
    have:=count_zero hcnt i (by simp;omega)
    rw [Array.getElem?_toList] at this
    exact this
   have lis:∀ i,i<l.length→L.getD i false=true:=fun i hi=>by rw [Array.getD_eq_getD_getElem?,h1 i hi];rfl
   obtain ⟨p1,p2,p3,p4⟩:=putsC_spec (uv u ms) hd l.length (Nat.le_refl _)
   rw [List.take_length] at p1 p2 p3 p4
   have ea:a=putsFrom (uv u ms) 0 l a0:=by
    refine act_ext (by rw [p2];exact H.defers) (by rw [p1];exact H.size) fun k=>?_
    by_cases hj:∃ j,j<l.length∧(l[j]?).bind (·.dst)=some k
    ·obtain ⟨j,hj,hdj⟩:=hj
     rw [p3 j k hj hdj,H.note j k hj (lis j hj) hdj]
    ·have hno:∀ j,j<l.length→(l[j]?).bind (·.dst)≠some k:=fun j hj' e=>hj ⟨j,hj',e⟩
     rw [p4 k (fun j hj=>hno j hj),H.rest k (fun j hj e=>absurd e (hno j hj))]
   have hcl:cntL ch L=ch.length:=by
    unfold cntL
    rw [List.filter_eq_self.2 fun m hm=>lis m (hch m hm)]
   have hq:=hK ms w (by rw [hml,hcl]) HR
   rw [←ea] at hq
   refine ⟨?_,hq⟩
   rw [List.eq_nil_iff_forall_not_mem]
   intro i hi
   obtain ⟨h2,o,ho,_⟩:=mem_ready.1 hi
   have hil:i<l.length:=by have:=(Array.getElem?_eq_some_iff.1 ho).1;simpa using this
   rw [Array.getD_eq_getD_getElem?,h1 i hil] at h2
   simp at h2
  | succ fuel ih =>
   intro L a w ms hz H hml HR hcnt
   obtain ⟨q,hq⟩:=count_pos hcnt
   have hqn:q<l.length:=by have:=(List.getElem?_eq_some_iff.1 hq).1;simp at this;omega
   have hq':L[q]? = some false:=by rw [Array.getElem?_toList] at hq;exact hq
   refine ⟨fun h0=>?_,fun i hi=>?_⟩
   ·exfalso
    obtain ⟨k,hk,hkmin⟩:=least_false q hq'
    have hkl:k<l.length:=by have:=(Array.getElem?_eq_some_iff.1 hk).1;omega
    obtain ⟨o,ho⟩:∃ o,l[k]? = some o:=⟨_,List.getElem?_eq_getElem hkl⟩
    obtain ⟨_,_,hf,_⟩:=indepC_spec hin ho
    have:k∈Region.ready .any l.toArray L:=mem_ready.2 ⟨by rw [Array.getD_eq_getD_getElem?,hk];rfl,o,by simpa using ho,fun e he hb=>by
     have hlt:=(hf e he hb).1
     have hne:=hkmin e.on hlt
     have hsz:e.on<L.size:=by omega
     rw [Array.getD_eq_getD_getElem?]
     rw [Array.getElem?_eq_getElem hsz] at hne ⊢
     cases hv:L[e.on] with
     | true=>rfl
     | false=>rw [hv] at hne;exact absurd rfl hne⟩
    rw [h0] at this;cases this
   ·obtain ⟨h1,o,ho,hall⟩:=mem_ready.1 hi
    have hil:i<l.length:=by have:=(Array.getElem?_eq_some_iff.1 ho).1;simpa using this
    have hol:l[i]? = some o:=by simpa using ho
    have hLs:i<L.size:=by omega
    have hLi:L[i]? = some false:=by
     rw [Array.getElem?_eq_getElem hLs]
     simp [Array.getD_eq_getD_getElem?,Array.getElem?_eq_getElem hLs] at h1
     rw [h1]
    have hLd:L.getD i false=false:=by rw [Array.getD_eq_getD_getElem?,hLi];rfl
    obtain ⟨hg,hsel,hfw,hop⟩:=indepC_spec hin hol
    have hwt:Region.wanted o (yielded l.toArray a.tmps)=true:=by unfold Region.wanted;rw [hg]
    obtain ⟨s1,s2⟩:=cnt_span (ch:=ch) H.closed hol hLd hall
    have hst:=hs.at hol
    obtain ⟨p1,p2,p3,p4⟩:=putsC_spec (uv u ms) hd i (Nat.le_of_lt hil)
    have hlen:(l.take i).length=i:=by simp;omega
    unfold StepV at hst
    rw [List.nil_append,Nat.zero_add] at hst
    have hwp:=hst ms w (by rw [hml];exact s1) (by rw [hml];exact s2) HR
    rw [←p2] at hwp
    have hdo:=doesX_of_wp (fun d hdd=>by rw [p1];exact (dstC_spec hd hil (by rw [hol];exact hdd)).1) (fun hn v w' h=>⟨fun h'=>absurd hn h',(by
     have h2:=h.2
     unfold moreV gotV at h2 ⊢
     rw [hn] at h2 ⊢
     exact h2)⟩) hg hwp
    have hcongr:execOp a.eval o=execOp (putsFrom (uv u ms) 0 (l.take i) a0).eval o:=by
     refine execOp_congr o hsel fun x hx=>?_
     cases x with
     | tmp t =>
      show a.tmps.getD t undef=(putsFrom _ 0 (l.take i) a0).tmps.getD t undef
      rw [Array.getD_eq_getD_getElem?,Array.getD_eq_getD_getElem?]
      by_cases hj:∃ j,j<l.length∧(l[j]?).bind (·.dst)=some t
      ·obtain ⟨j,hj,hdj⟩:=hj
       rcases hop _ hx j hj hdj with ⟨e,he,hbd,rfl⟩|hre
       ·have hlt:=(hfw e he hbd).1
        rw [p3 e.on t hlt hdj,H.note e.on t hj (hall e he hbd) hdj]
       ·have hu:=dstC_spec hd hj hdj
        have hij:=reach_lt hin hre
        have hnr:L.getD j false=false:=by
         cases hv:L.getD j false
         ·rfl
         ·have:=reach_done H.closed hre hv
          rw [hLd] at this
          cases this
        rw [p4 t (fun j' hj' e=>hu.2 j' (by omega) (by omega) e),H.rest t (fun j' hj' e=>by
         by_cases ee:j=j'
         ·rw [←ee];exact hnr
         ·exact absurd e (hu.2 j' hj' ee))]
      ·have hno:∀ j,j<l.length→(l[j]?).bind (·.dst)≠some t:=fun j hj' e=>hj ⟨j,hj',e⟩
       rw [p4 t (fun j hj=>hno j (by omega)),H.rest t (fun j hj e=>absurd e (hno j hj))]
     | const v=>rfl
     | global g=>rfl
     | func f=>rfl
    have hdo2:Oper.doesX P o a w (fun v w'=>(o.dst≠none→v=uv u (moreV ch i o ms v) i)∧R (moreV ch i o ms v) w') X:=by
     unfold Oper.doesX at hdo ⊢
     rw [hcongr];exact hdo
    unfold wpOp
    rw [ho]
    dsimp only
    rw [if_pos hwt]
    refine .inl (wp_of_doesX hdo2 (fun v w' hv=>?_) (fun c w' hc=>hX c a w' H.defers hc))
    have Hm:CNotes .any l ch (uv u (moreV ch i o ms v)) (fun _ _=>True) a0 L a w:=by
     refine ⟨trivial,H.closed,H.defers,H.size,H.rest,fun j d hj hl hdj=>?_⟩
     rw [H.note j d hj hl hdj]
     congr 1
     unfold moreV
     by_cases hi:i∈ch
     ·rw [if_pos hi]
      refine (uv_more ?_).symm
      have hji:j≠i:=fun e=>by rw [e,hLd] at hl;cases hl
      have h1:=List.all_eq_true.1 (List.all_eq_true.1 hcap i hi) j (List.mem_range.2 hj)
      simp only [Bool.or_eq_true,decide_eq_true_eq] at h1
      rcases h1 with h1|h1|h1
      ·exact absurd h1 hji
      ·rw [hml];exact Nat.le_trans h1 s1
      ·have:=reach_done H.closed h1 hl
       rw [hLd] at this;cases this
     ·rw [if_neg hi]
    refine ih _ _ w' _ (by simpa using hz) (Hm.step hnd hd hol hLs hLd hall hv.1 trivial) ?_ hv.2 ?_
    ·rw [cnt_set hnd hLs hLd,←hml]
     unfold moreV
     split <;> simp
    ·have:=count_set L.toList i (by rw [Array.getElem?_toList];exact hLi)
     rw [Array.toList_setIfInBounds];omega
 have H0:CNotes .any l ch (uv u []) (fun _ _=>True) a0 (Array.replicate l.toArray.size false) a0 { w0 with drawn:=w0.drawn+1 }:=by
  refine ⟨trivial,fun i o _ hi=>(by rw [getD_replicate_false] at hi;cases hi),rfl,rfl,fun _ _=>rfl,fun i d _ hl=>(by rw [getD_replicate_false] at hl;cases hl)⟩
 have hc0:cntL ch (Array.replicate l.toArray.size false)=0:=by
  unfold cntL
  rw [List.length_eq_zero_iff,List.filter_eq_nil_iff]
  intro m _
  rw [getD_replicate_false];decide
 have:=fwd l.length (Array.replicate l.toArray.size false) a0 { w0 with drawn:=w0.drawn+1 } [] (by simp) H0 (by rw [hc0];rfl) h0 (by simp)
 simpa using this
end

end Go.Proofs.YtdeeoddacnealaaGreat