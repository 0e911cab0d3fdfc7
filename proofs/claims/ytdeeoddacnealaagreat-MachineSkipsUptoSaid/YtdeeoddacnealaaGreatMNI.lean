/- Several texts as one: NoteG NoteI. -/
import Derived.Test.YtdeeoddacnealaaGreatMNL
import Derived.Test.YtdeeoddacnealaaGreatMNC
set_option linter.unusedVariables false
set_option linter.unusedSimpArgs false
namespace Go.Proofs.YtdeeoddacnealaaGreat
open Go.RowKit

section
variable {P : Program} {l : List Oper} {n : Nat} {md : Region.Mode}

def indepG (md:Region.Mode) (l:List Oper) (n:Nat):Bool :=
 (List.range n).all fun i=>match l[i]? with
  | some o=>(match o.guard with|none=>true|some (j,_)=>decide (j<n) && o.after.any fun e=>Region.binds md e && decide (e.on=j)) && (match o.op with | .select _ _=>false|_=>true) && o.op.operands.all fun x=>match x with
   | .tmp t=>(List.range n).all fun j=>decide (dstOf l j≠t)||o.after.any fun e=>Region.binds md e && decide (e.on=j)
   | _=>true
  | none=>false

def StepG (P:Program) (N:List Note) (a0:Act) (w0:World) (pre:List Oper) (o:Oper):Prop :=
 match o.guard with
 | none=>StepN P N a0 w0 pre o
 | some (j,b)=>∃ c:Bool,N.getD j (.val undef)=.val (.bool c)∧((c=b∧StepN P N a0 w0 pre { o with guard:=none })∨(c≠b∧N.getD pre.length (.val undef)=.val undef))
theorem StepG.run {N:List Note} {a0:Act} {w0:World} {pre:List Oper} {o:Oper} (hg:o.guard=none) (h:StepN P N a0 w0 pre o):StepG P N a0 w0 pre o:=by unfold StepG;rw [hg];exact h
theorem StepG.on {N:List Note} {a0:Act} {w0:World} {pre:List Oper} {o:Oper} {j:Nat} {b:Bool} (hg:o.guard=some (j,b)) (hN:N.getD j (.val undef)=.val (.bool b)) (h:StepN P N a0 w0 pre { o with guard:=none }):StepG P N a0 w0 pre o:=by
 unfold StepG;rw [hg];exact ⟨b,hN,.inl ⟨rfl,h⟩⟩
def StepsG (P:Program) (N:List Note) (a0:Act) (w0:World):List Oper→List Oper→Prop
 | _,[]=>True
 | pre,o :: os=>StepG P N a0 w0 pre o∧StepsG P N a0 w0 (pre++[o]) os
theorem StepsG.at {P:Program} {N:List Note} {a0:Act} {w0:World}:∀ {os pre:List Oper} {i:Nat} {o:Oper},StepsG P N a0 w0 pre os→os[i]? = some o→StepG P N a0 w0 (pre++os.take i) o
 | [],_,_,_,_,h=>by simp at h
 | p :: os,pre,0,o,hs,h=>by
  simp at h;subst h
  simpa using hs.1
 | p :: os,pre,i+1,o,hs,h=>by
  have:=StepsG.at hs.2 (i:=i) (o:=o) (by simpa using h)
  simpa using this

def noteG (md:Region.Mode) (l:List Oper) (n sz:Nat):Bool :=
 decide (n≤l.length) && (decide (n=l.length)||(Region.sinkB md l.toArray n && Region.chainB md l.toArray n)) && dstB l n sz && headFwd md (l.take n) && indepG md l n && Region.seqB md l.toArray (l.length-n) n ((List.replicate n true++List.replicate (l.length-n) false).toArray)

theorem indepG_spec {md:Region.Mode} {l:List Oper} {n i:Nat} {o:Oper} (h:indepG md l n=true) (hi:i<n) (ho:l[i]? = some o) :
  (∀ j b,o.guard=some (j,b)→j<n∧∃ e∈o.after,Region.binds md e=true∧e.on=j)∧(∀ cs b,o.op≠.select cs b)∧∀ t,.tmp t∈o.op.operands→∀ j,j<n→dstOf l j=t→∃ e∈o.after,Region.binds md e=true∧e.on=j:=by
 have h1:=List.all_eq_true.1 h i (List.mem_range.2 hi)
 rw [ho] at h1
 simp only [Bool.and_eq_true] at h1
 obtain ⟨⟨h2,h3⟩,h4⟩:=h1
 refine ⟨fun j b hg=>?_,(fun cs b e=>by rw [e] at h3;cases h3),fun t ht j hj hd=>?_⟩
 ·rw [hg] at h2
  simp only [Bool.and_eq_true,decide_eq_true_eq] at h2
  obtain ⟨e,he,h7⟩:=Array.any_eq_true'.1 h2.2
  simp only [Bool.and_eq_true,decide_eq_true_eq] at h7
  exact ⟨h2.1,e,he,h7⟩
 ·have h5:=(Array.all_eq_true'.1 h4) _ ht
  have h6:=List.all_eq_true.1 h5 j (List.mem_range.2 hj)
  simp only [hd,ne_eq,not_true,decide_false,Bool.false_or] at h6
  obtain ⟨e,he,h7⟩:=Array.any_eq_true'.1 h6
  simp only [Bool.and_eq_true,decide_eq_true_eq] at h7
  exact ⟨e,he,h7⟩

theorem wp_region_notesG {P:Program} {l:List Oper} {id:Nat} {Q:Exit→Act→World→Prop} {a0:Act} {w0:World} (N:List Note) {sz:Nat} (hsz:a0.tmps.size=sz) (hm:P.follows .mixedOrders=true) (hB:noteG .any l N.length sz=true)
  (hs:StepsG P N a0 w0 [] (l.take N.length))
  (hK:∀ (u:Nat→Value) (x:World),Below w0.heap.size w0 x→(∀ i,i<N.length→(N.getD i (.val undef)).phi w0.heap.size (u i) x) →
   (∀ i j,i<N.length→j<N.length→i≠j→(N.getD i (.val undef)).fresh=true→(N.getD j (.val undef)).fresh=true→blkOf (u i)≠blkOf (u j))→wpList P l.toArray Q (l.drop N.length) (putsFrom u 0 (l.take N.length) a0) x) :
  (Code.region id l.toArray true).wp P Q a0 w0:=by
 subst hsz
 generalize hn0:N.length=n at *
 simp only [noteG,Bool.and_eq_true,Bool.or_eq_true,decide_eq_true_eq] at hB
 obtain ⟨⟨⟨⟨⟨hn,hw⟩,hd⟩,hf⟩,hin⟩,hseq⟩:=hB
 refine wp_region_any hm ?_
 have e0:Below w0.heap.size w0 { w0 with drawn:=w0.drawn+1 }:=(Below.refl _ _).drew
 have inv0:HeadInv .any l.toArray n (Array.replicate l.toArray.size false) :=
  ⟨by simp,fun j oj _ hl=>(by rw [getD_replicate_false] at hl;cases hl),fun t _ ht=>getD_in (by simpa using ht) (getD_replicate_false _ _)⟩
 have H0:Notes l n (fun i=>(N.getD i (.val undef)).phi w0.heap.size) (fun i=>(N.getD i (.val undef)).fresh) a0 { w0 with drawn:=w0.drawn+1 } (Array.replicate l.toArray.size false) a0 { w0 with drawn:=w0.drawn+1 } :=
  ⟨Below.refl _ _,rfl,rfl,fun _ _=>rfl,fun i _ hl=>(by rw [getD_replicate_false] at hl;cases hl),fun i j _ _ _ hl=>(by rw [getD_replicate_false] at hl;cases hl)⟩
 have:=notes_any (P:=P) (md:=.any) (l:=l) (n:=n) (Q:=Q) (Φ:=fun i=>(N.getD i (.val undef)).phi w0.heap.size) (fresh:=fun i=>(N.getD i (.val undef)).fresh) (a0:=a0) (w0:={ w0 with drawn:=w0.drawn+1 }) (g:=l.length-n) hn hw hd hf
  (fun i _ v w w' h hb=>Note.stays h hb)
  (fun i o ho hi a w hb hrest hdeps=>by
   obtain ⟨hgd,hsel,hop⟩:=indepG_spec hin hi ho
   have hoH:(l.take n)[i]? = some o:=by rw [List.getElem?_take,if_pos hi];exact ho
   have hst:=hs.at hoH
   rw [List.nil_append,List.take_take,Nat.min_eq_left (Nat.le_of_lt hi)] at hst
   have hdi:=dstB_spec hd hi
   have hdst:o.dst=some (dstOf l i):=by
    obtain ⟨o',h2,h3⟩:=hdi.1
    rw [ho] at h2;cases h2;exact h3
   have runs:StepN P N a0 w0 (l.take i) { o with guard:=none }→Oper.doesR P o a w fun v w'=>Below w.heap.size w w'∧(N.getD i (.val undef)).phi w0.heap.size v w'∧((N.getD i (.val undef)).fresh=true→∃ B,blkOf v=some B∧w.heap.size≤B∧B<w'.heap.size):=fun hst=>by
    obtain ⟨p1,p2,p3,p4⟩:=putsFrom_spec (l:=l) (n:=n) (fun j=>(a.tmps[dstOf l j]?).getD undef) hd i (Nat.le_of_lt hi)
    have hwp:=hst (fun j=>(a.tmps[dstOf l j]?).getD undef) w (e0.trans hb) (fun e he hbd=>by
     obtain ⟨v,h1,h2⟩:=hdeps e he hbd
     show (N.getD e.on _).phi _ ((a.tmps[dstOf l e.on]?).getD undef) w
     rw [h1];exact h2)
    have hlen:(l.take i).length=i:=by simp;omega
    have hg0:o.dst.getD 0=dstOf l i:=by rw [hdst];rfl
    rw [hlen] at hwp
    have hwp2:=wp_of_list (o:={ o with guard:=none }) rfl hwp
    simp only [hg0] at hwp2
    rw [←p2] at hwp2
    have hdo:=doesR_of_wp (R:=fun v w'=>Below w.heap.size w w'∧(N.getD i (.val undef)).phi w.heap.size v w') (o:={ o with guard:=none }) hdst (by rw [p1];exact hdi.2.1) hwp2
    have hcongr:execOp a.eval o=execOp (putsFrom (fun j=>(a.tmps[dstOf l j]?).getD undef) 0 (l.take i) a0).eval o:=by
     refine execOp_congr o hsel fun x hx=>?_
     cases x with
     | tmp t =>
      show a.tmps.getD t undef=(putsFrom _ 0 (l.take i) a0).tmps.getD t undef
      rw [Array.getD_eq_getD_getElem?,Array.getD_eq_getD_getElem?]
      by_cases hj:∃ j,j<n∧dstOf l j=t
      ·obtain ⟨j,hj,rfl⟩:=hj
       obtain ⟨e,he,hbd,rfl⟩:=hop _ hx j hj rfl
       have hlt:=(headFwd_spec hf hoH).1 e he hbd
       obtain ⟨v,h1,_⟩:=hdeps e he hbd
       rw [p3 e.on hlt,h1];rfl
      ·have hno:∀ j,j<n→dstOf l j≠t:=fun j hj' e=>hj ⟨j,hj',e⟩
       rw [p4 t hno,hrest t hno]
     | const v=>rfl
     | global g=>rfl
     | func f=>rfl
    unfold Oper.doesR at hdo ⊢
    rw [hcongr]
    have mono:∀ {r:Result Next} {R R':Value→World→Prop},(∀ v w',R v w'→R' v w')→doesUpon P R r→doesUpon P R' r:=by
     intro r R R' hR h
     cases r with
     | halt x w'=>exact h
     | ok x w' =>
      cases x <;> simp only [doesUpon] at h ⊢
      case value u=>exact hR _ _ h
      case skip=>exact hR _ _ h
      case enter f args=>exact h.mono fun e w'' ⟨u,h1,h2⟩=>⟨u,h1,hR _ _ h2⟩
      case row r ars=>exact h.mono fun v w'' h1=>hR _ _ h1
    refine mono (fun v w' hv=>?_) hdo
    exact ⟨hv.1,Note.lower hv.2 (e0.trans hb).size,fun hfr=>Note.made hv.2 hfr⟩
   cases hg:o.guard with
   | none =>
    have hwt:Region.wanted o (yielded l.toArray a.tmps)=true:=by unfold Region.wanted;rw [hg]
    unfold StepG at hst
    rw [hg] at hst
    have eo:({ o with guard:=none }:Oper)=o:=by cases o;simp only at hg;subst hg;rfl
    exact ⟨fun _=>runs (by rw [eo];exact hst),fun h=>by rw [hwt] at h;cases h⟩
   | some jb =>
    obtain ⟨j,b⟩:=jb
    obtain ⟨hjn,e,he,hbd,hej⟩:=hgd j b hg
    subst hej
    unfold StepG at hst
    rw [hg] at hst
    obtain ⟨c,hc,hst⟩:=hst
    obtain ⟨v,h1,h2⟩:=hdeps e he hbd
    have hv:v=.bool c:=by
     have h3:(N.getD e.on (.val undef)).phi w0.heap.size v w:=h2
     rw [hc] at h3;exact h3
    have hy:yielded l.toArray a.tmps e.on=some c:=by
     obtain ⟨o',h3,h4⟩:=(dstB_spec hd hjn).1
     unfold yielded
     rw [List.getElem?_toArray,h3]
     simp only [Option.bind_some,h4,h1,hv]
    have hwt:Region.wanted o (yielded l.toArray a.tmps)=decide (c=b):=by unfold Region.wanted;rw [hg];simp only [hy];cases c <;> cases b <;> rfl
    rcases hst with ⟨hcb,hst⟩|⟨hcb,h0⟩
    ·refine ⟨fun _=>runs hst,fun h=>?_⟩
     rw [hwt] at h;simp [hcb] at h
    ·refine ⟨fun h=>?_,fun _=>?_⟩
     ·rw [hwt] at h;simp [hcb] at h
     ·have hlen:(l.take i).length=i:=by simp;omega
      rw [hlen] at h0
      show (N.getD i (.val undef)).phi w0.heap.size undef w∧(N.getD i (.val undef)).fresh=false
      rw [h0];exact ⟨rfl,rfl⟩)
  (fun L a w H hz h1 h2=>by
   have eL:L=(List.replicate n true++List.replicate (l.length-n) false).toArray:=by
    apply Array.ext_getElem?
    intro i
    rcases Nat.lt_or_ge i n with hi|hi
    ·rw [h1 i hi];simp [List.getElem?_append,hi]
    ·rcases Nat.lt_or_ge i l.length with h3|h3
     ·rw [h2 i hi h3];simp [List.getElem?_append,Nat.not_lt.2 hi,List.getElem?_replicate];omega
     ·rw [Array.getElem?_eq_none (by omega)];symm;simp;omega
   have lis:∀ i,i<n→L.getD i false=true:=fun i hi=>by rw [Array.getD_eq_getD_getElem?,h1 i hi];rfl
   have ea:a=putsFrom (fun j=>(a.tmps[dstOf l j]?).getD undef) 0 (l.take n) a0:=by
    obtain ⟨p1,p2,p3,p4⟩:=putsFrom_spec (l:=l) (n:=n) (fun j=>(a.tmps[dstOf l j]?).getD undef) hd n (Nat.le_refl n)
    refine act_ext (by rw [p2];exact H.defers) (by rw [p1];exact H.size) fun k=>?_
    by_cases hj:∃ j,j<n∧dstOf l j=k
    ·obtain ⟨j,hj,rfl⟩:=hj
     obtain ⟨v,h3,_⟩:=H.note j hj (lis j hj)
     rw [p3 j hj,h3];rfl
    ·have hno:∀ j,j<n→dstOf l j≠k:=fun j hj' e=>hj ⟨j,hj',e⟩
     rw [p4 k hno,H.rest k hno]
   have hq:=hK (fun j=>(a.tmps[dstOf l j]?).getD undef) w (e0.trans H.ext) (fun i hi=>by
    obtain ⟨v,h3,h4,_⟩:=H.note i hi (lis i hi)
    show (N.getD i _).phi _ ((a.tmps[dstOf l i]?).getD undef) w
    rw [h3];exact h4) (fun i j hi hj hne hfi hfj=>by
    obtain ⟨v,h3,_⟩:=H.note i hi (lis i hi)
    obtain ⟨v',h4,_⟩:=H.note j hj (lis j hj)
    have:=H.apart i j hi hj hne (lis i hi) (lis j hj) hfi hfj
    rw [h3,h4] at this
    show blkOf ((a.tmps[dstOf l i]?).getD undef)≠blkOf ((a.tmps[dstOf l j]?).getD undef)
    rw [h3,h4];exact this)
   rw [←ea] at hq
   rw [eL]
   have hdl:(l.drop n).length=l.length-n:=by simp
   have:=wpAny_of_seq (P:=P) (md:=.any) (ops:=l.toArray) (Q':=Q) (l.drop n) n _ a w (fun j=>by simp [List.getElem?_drop]) (by rw [hdl];exact hseq) hq
   rwa [hdl] at this)
  n (Array.replicate l.toArray.size false) a0 { w0 with drawn:=w0.drawn+1 } inv0 H0 (by simp;omega)
 rw [show n+(l.length-n)=l.toArray.size by simp;omega] at this
 exact this
end

section
variable {P : Program} {l : List Oper}

def setI (L:Nat→Bool) (i:Nat):Nat→Bool:=fun j=>decide (j=i)||L j
def setU (u:Nat→Value) (i:Nat) (v:Value):Nat→Value:=fun j=>if j=i then v else u j
theorem setI_self (L:Nat→Bool) (i:Nat):setI L i i=true:=by simp [setI]
theorem setI_ne {L:Nat→Bool} {i j:Nat} (h:j≠i):setI L i j=L j:=by simp [setI,h]
theorem setU_self (u:Nat→Value) (i:Nat) (v:Value):setU u i v i=v:=by simp [setU]
theorem setU_ne {u:Nat→Value} {i j:Nat} {v:Value} (h:j≠i):setU u i v j=u j:=by simp [setU,h]
def gotI (o:Oper) (v:Value):Value:=if o.dst.isNone then undef else v
def StepI (P:Program) (R:(Nat→Bool)→(Nat→Value)→World→Prop) (X:List PanicEntry→World→Prop) (all:List Oper) (a0:Act) (i:Nat) (pre:List Oper) (o:Oper):Prop :=
 ∀ (L:Nat→Bool) (u:Nat→Value) (x:World),(∀ p,reach .any all all.length i p=true→L p=true)→(∀ p,reach .any all all.length p i=true→L p=false)→L i=false→R L u x →
  wpList P #[] (postX (fun v w'=>R (setI L i) (setU u i (gotI o v)) w') X o.dst a0.defers) [o] (putsFrom u 0 pre a0) x
def StepsI (P:Program) (R:(Nat→Bool)→(Nat→Value)→World→Prop) (X:List PanicEntry→World→Prop) (all:List Oper) (a0:Act):Nat→List Oper→List Oper→Prop
 | _,_,[]=>True
 | i,pre,o :: os=>StepI P R X all a0 i pre o∧StepsI P R X all a0 (i+1) (pre++[o]) os
theorem StepsI.at {R:(Nat→Bool)→(Nat→Value)→World→Prop} {X:List PanicEntry→World→Prop} {all:List Oper} {a0:Act}:∀ {os pre:List Oper} {k i:Nat} {o:Oper},StepsI P R X all a0 k pre os→os[i]? = some o→StepI P R X all a0 (k+i) (pre++os.take i) o
 | [],_,_,_,_,_,h=>by simp at h
 | p :: os,pre,k,0,o,hs,h=>by
  simp at h;subst h
  simpa using hs.1
 | p :: os,pre,k,i+1,o,hs,h=>by
  have:=StepsI.at hs.2 (i:=i) (o:=o) (by simpa using h)
  have e:k+1+i=k+(i+1):=by omega
  rw [e] at this
  simpa using this
theorem getD_setI {L:Array Bool} {i:Nat} (hi:i<L.size):(fun j=>(L.setIfInBounds i true).getD j false)=setI (fun j=>L.getD j false) i:=by
 funext j
 by_cases e:j=i
 ·subst e;rw [setI_self];exact getD_set_eq hi
 ·rw [setI_ne e];exact getD_set_ne false (Ne.symm e)
def indepI (md:Region.Mode) (l:List Oper):Bool :=
 (List.range l.length).all fun i=>match l[i]? with
  | some o=>o.guard.isNone && (match o.op with | .select _ _=>false|_=>true) && (o.after.all fun e=>!Region.binds md e||decide (e.on<i)) && o.op.operands.all fun x=>match x with
   | .tmp t=>(List.range l.length).all fun j=>decide ((l[j]?).bind (·.dst)≠some t)||o.after.any fun e=>Region.binds md e && decide (e.on=j)
   | _=>true
  | none=>false
theorem indepI_spec {md:Region.Mode} {i:Nat} {o:Oper} (h:indepI md l=true) (ho:l[i]? = some o) :
  o.guard=none∧(∀ cs b,o.op≠.select cs b)∧(∀ e∈o.after,Region.binds md e=true→e.on<i)∧∀ t,.tmp t∈o.op.operands→∀ j,j<l.length→(l[j]?).bind (·.dst)=some t→∃ e∈o.after,Region.binds md e=true∧e.on=j:=by
 have hi:i<l.length:=(List.getElem?_eq_some_iff.1 ho).1
 have h1:=List.all_eq_true.1 h i (List.mem_range.2 hi)
 rw [ho] at h1
 simp only [Bool.and_eq_true] at h1
 obtain ⟨⟨⟨h2,h3⟩,h4⟩,h5⟩:=h1
 refine ⟨by simpa using h2,fun cs b e=>(by rw [e] at h3;cases h3),fun e he hb=>?_,fun t ht j hj hd=>?_⟩
 ·have:=Array.all_eq_true'.1 h4 e he
  rw [hb] at this
  simpa using this
 ·have:=Array.all_eq_true'.1 h5 _ ht
  simp only at this
  have:=List.all_eq_true.1 this j (List.mem_range.2 hj)
  simp only [Bool.or_eq_true,decide_eq_true_eq] at this
  rcases this with h|h
  ·exact absurd hd h
  ·obtain ⟨e,he,h6⟩:=Array.any_eq_true'.1 h
   simp only [Bool.and_eq_true,decide_eq_true_eq] at h6
   exact ⟨e,he,h6.1,h6.2⟩
def chainI (md:Region.Mode) (l:List Oper) (sz:Nat):Bool:=dstC l sz && indepI md l
theorem wp_region_inv {id:Nat} {Q:Exit→Act→World→Prop} {a0:Act} {w0:World} (R:(Nat→Bool)→(Nat→Value)→World→Prop) (X:List PanicEntry→World→Prop) {sz:Nat} (hsz:a0.tmps.size=sz) (hm:P.follows .mixedOrders=true) (hB:chainI .any l sz=true)
  (h0:R (fun _=>false) (fun _=>undef) { w0 with drawn:=w0.drawn+1 }) (hs:StepsI P R X l a0 0 [] l) (hK:∀ L u x,(∀ i,i<l.length→L i=true)→R L u x→Q .normal (putsFrom u 0 l a0) x) (hX:∀ c a x,a.defers=a0.defers→X c x→Q (.panic c) a x) :
  (Code.region id l.toArray true).wp P Q a0 w0:=by
 subst hsz
 simp only [chainI,Bool.and_eq_true] at hB
 obtain ⟨hd,hin⟩:=hB
 refine wp_region_any hm ?_
 have fwd:∀ (fuel:Nat) (L:Array Bool) (a:Act) (w:World) (u:Nat→Value),L.size=l.length→CNotes .any l [] u (fun _ _=>True) a0 L a w→R (fun j=>L.getD j false) u w→(L.toList.filter (!·)).length=fuel→wpAny P .any l.toArray Q fuel L a w:=by
  intro fuel
  induction fuel with
  | zero =>
   intro L a w u hz H HR hcnt
   have h1:∀ i,i<l.length→L[i]? = some true:=fun i hi=>by
    have:=count_zero hcnt i (by simp;omega)
    rw [Array.getElem?_toList] at this
    exact this
   have lis:∀ i,i<l.length→L.getD i false=true:=fun i hi=>by rw [Array.getD_eq_getD_getElem?,h1 i hi];rfl
   obtain ⟨p1,p2,p3,p4⟩:=putsC_spec u hd l.length (Nat.le_refl _)
   rw [List.take_length] at p1 p2 p3 p4
   have ea:a=putsFrom u 0 l a0:=by
    refine act_ext (by rw [p2];exact H.defers) (by rw [p1];exact H.size) fun k=>?_
    by_cases hj:∃ j,j<l.length∧(l[j]?).bind (·.dst)=some k
    ·obtain ⟨j,hj,hdj⟩:=hj
     rw [p3 j k hj hdj,H.note j k hj (lis j hj) hdj]
    ·have hno:∀ j,j<l.length→(l[j]?).bind (·.dst)≠some k:=fun j hj' e=>hj ⟨j,hj',e⟩
     rw [p4 k (fun j hj=>hno j hj),H.rest k (fun j hj e=>absurd e (hno j hj))]
   have hq:=hK _ u w lis HR
   rw [←ea] at hq
   refine ⟨?_,hq⟩
   rw [List.eq_nil_iff_forall_not_mem]
   intro i hi
   obtain ⟨h2,o,ho,_⟩:=mem_ready.1 hi
   have hil:i<l.length:=by have:=(Array.getElem?_eq_some_iff.1 ho).1;simpa using this
   rw [Array.getD_eq_getD_getElem?,h1 i hil] at h2
   simp at h2
  | succ fuel ih =>
   intro L a w u hz H HR hcnt
   obtain ⟨q,hq⟩:=count_pos hcnt
   have hqn:q<l.length:=by have:=(List.getElem?_eq_some_iff.1 hq).1;simp at this;omega
   have hq':L[q]? = some false:=by rw [Array.getElem?_toList] at hq;exact hq
   refine ⟨fun h0=>?_,fun i hi=>?_⟩
   ·exfalso
    obtain ⟨k,hk,hkmin⟩:=least_false q hq'
    have hkl:k<l.length:=by have:=(Array.getElem?_eq_some_iff.1 hk).1;omega
    obtain ⟨o,ho⟩:∃ o,l[k]? = some o:=⟨_,List.getElem?_eq_getElem hkl⟩
    obtain ⟨_,_,hf,_⟩:=indepI_spec hin ho
    have:k∈Region.ready .any l.toArray L:=mem_ready.2 ⟨by rw [Array.getD_eq_getD_getElem?,hk];rfl,o,by simpa using ho,fun e he hb=>by
     have hlt:=hf e he hb
     have hne:=hkmin e.on hlt
     have hsz:e.on<L.size:=by omega
     rw [Array.getD_eq_getD_getElem?]
     rw [Array.getElem?_eq_getElem hsz] at hne ⊢
     cases hv:L[e.on] with
     | true=>rfl
     | false=>rw [hv] at hne;exact absurd rfl hne⟩
    rw [h0] at this;cases this
   ·obtain ⟨h1,o,ho,hall⟩:=mem_ready.1 hi
    have hil:i<l.length:=by have:=(Array.getElem?_eq_some_iff.1 ho).1;simpa using this
    have hol:l[i]? = some o:=by simpa using ho
    have hLs:i<L.size:=by omega
    have hLi:L[i]? = some false:=by
     rw [Array.getElem?_eq_getElem hLs]
     simp [Array.getD_eq_getD_getElem?,Array.getElem?_eq_getElem hLs] at h1
     rw [h1]
    have hLd:L.getD i false=false:=by rw [Array.getD_eq_getD_getElem?,hLi];rfl
    obtain ⟨hg,hsel,hfw,hop⟩:=indepI_spec hin hol
    have hwt:Region.wanted o (yielded l.toArray a.tmps)=true:=by unfold Region.wanted;rw [hg]
    have hst:=hs.at hol
    obtain ⟨p1,p2,p3,p4⟩:=putsC_spec u hd i (Nat.le_of_lt hil)
    unfold StepI at hst
    rw [List.nil_append,Nat.zero_add] at hst
    have hwp:=hst _ u w (fun p hr=>by
     cases hl:l.length with
     | zero=>rw [hl] at hr;simp [reach] at hr
     | succ f =>
      rw [hl] at hr
      unfold reach at hr
      rw [hol] at hr
      simp only at hr
      obtain ⟨e,he,h2⟩:=Array.any_eq_true'.1 hr
      simp only [Bool.and_eq_true,Bool.or_eq_true,decide_eq_true_eq] at h2
      have h3:=hall e he h2.1
      rcases h2.2 with rfl|h4
      ·exact h3
      ·exact reach_done H.closed h4 h3) (fun p hr=>by
     cases hp:L.getD p false with
     | false=>rfl
     | true=>rw [reach_done H.closed hr hp] at hLd;cases hLd) hLd HR
    rw [←p2] at hwp
    have hdo:=doesX_of_wp (fun d hdd=>by rw [p1];exact (dstC_spec hd hil (by rw [hol];exact hdd)).1) (fun hn v w' h=>by
     have hu:∀ v,gotI o v=undef:=fun v=>by unfold gotI;rw [hn];rfl
     rw [hu] at h ⊢;exact h) hg hwp
    have hcongr:execOp a.eval o=execOp (putsFrom u 0 (l.take i) a0).eval o:=by
     refine execOp_congr o hsel fun x hx=>?_
     cases x with
     | tmp t =>
      show a.tmps.getD t undef=(putsFrom _ 0 (l.take i) a0).tmps.getD t undef
      rw [Array.getD_eq_getD_getElem?,Array.getD_eq_getD_getElem?]
      by_cases hj:∃ j,j<l.length∧(l[j]?).bind (·.dst)=some t
      ·obtain ⟨j,hj,hdj⟩:=hj
       obtain ⟨e,he,hbd,rfl⟩:=hop _ hx j hj hdj
       have hlt:=hfw e he hbd
       rw [p3 e.on t hlt hdj,H.note e.on t hj (hall e he hbd) hdj]
      ·have hno:∀ j,j<l.length→(l[j]?).bind (·.dst)≠some t:=fun j hj' e=>hj ⟨j,hj',e⟩
       rw [p4 t (fun j hj=>hno j (by omega)),H.rest t (fun j hj e=>absurd e (hno j hj))]
     | const v=>rfl
     | global g=>rfl
     | func f=>rfl
    have hdo2:Oper.doesX P o a w (fun v w'=>R (setI (fun j=>L.getD j false) i) (setU u i (gotI o v)) w') X:=by
     unfold Oper.doesX at hdo ⊢
     rw [hcongr];exact hdo
    unfold wpOp
    rw [ho]
    dsimp only
    rw [if_pos hwt]
    refine .inl (wp_of_doesX hdo2 (fun v w' hv=>?_) (fun c w' hc=>hX c a w' H.defers hc))
    have Hm:CNotes .any l [] (setU u i (gotI o v)) (fun _ _=>True) a0 L a w:=by
     refine ⟨trivial,H.closed,H.defers,H.size,H.rest,fun j d hj hl hdj=>?_⟩
     have hji:j≠i:=fun e=>by rw [e,hLd] at hl;cases hl
     rw [setU_ne hji];exact H.note j d hj hl hdj
    refine ih _ _ w' _ (by simpa using hz) (Hm.step List.nodup_nil hd hol hLs hLd hall (fun hn=>?_) trivial) ?_ ?_
    ·rw [setU_self];unfold gotI
     cases hdo:o.dst with
     | none=>exact absurd hdo hn
     | some d=>rfl
    ·rw [getD_setI hLs];exact hv
    ·have:=count_set L.toList i (by rw [Array.getElem?_toList];exact hLi)
     rw [Array.toList_setIfInBounds];omega
 have H0:CNotes .any l [] (fun _=>undef) (fun _ _=>True) a0 (Array.replicate l.toArray.size false) a0 { w0 with drawn:=w0.drawn+1 }:=by
  refine ⟨trivial,fun i o _ hi=>(by rw [getD_replicate_false] at hi;cases hi),rfl,rfl,fun _ _=>rfl,fun i d _ hl=>(by rw [getD_replicate_false] at hl;cases hl)⟩
 have e0:(fun j=>(Array.replicate l.toArray.size false).getD j false)=fun _=>false:=by funext j;exact getD_replicate_false _ _
 have:=fwd l.length (Array.replicate l.toArray.size false) a0 { w0 with drawn:=w0.drawn+1 } (fun _=>undef) (by simp) H0 (by rw [e0];exact h0) (by simp)
 simpa using this
end

end Go.Proofs.YtdeeoddacnealaaGreat