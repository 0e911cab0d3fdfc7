/- Several texts as one: Note NoteL. -/
import Derived.Test.YtdeeoddacnealaaGreatMA
import Derived.WalkKit
set_option linter.unusedVariables false
set_option linter.unusedSimpArgs false
namespace Go.Proofs.YtdeeoddacnealaaGreat
open Go.RowKit

def doesUpon (P:Program) (R:Value→World→Prop):Result Next→Prop
 | .ok (.value u) w'=>R u w'
 | .ok .skip w'=>R undef w'
 | .ok (.enter f args) w'=>Calls P f args w' fun e w''=>∃ u,e=.returned u∧R u w''
 | .ok (.row row args) w'=>Rows P row args w' R
 | _=>False
def Oper.doesR (P:Program) (o:Oper) (a:Act) (w:World) (R:Value→World→Prop):Prop:=doesUpon P R ((execOp a.eval o).run P w)

theorem wp_of_does {P:Program} {o:Oper} {a:Act} {w:World} {R:Value→World→Prop} {K:Act→World→Prop} {Q:Exit→Act→World→Prop}
  (h:Oper.doesR P o a w R) (hK:∀ u w',R u w'→K (a.put o.dst u) w'):o.wp P a w K Q:=by
 unfold Oper.doesR at h
 unfold Oper.wp
 generalize (execOp a.eval o).run P w=r at *
 cases r with
 | ok x w' =>
  cases x <;> simp only [doesUpon] at h <;> simp only [Oper.upon]
  case value u=>exact hK _ _ h
  case skip=>exact hK _ _ h
  case enter f args =>
   refine h.mono fun e w'' ⟨u,he,hR⟩=>?_
   subst he
   exact hK _ _ hR
  case row row args=>exact h.mono fun v w'' hR=>hK _ _ hR
 | halt x w'=>simp only [doesUpon] at h

def blkOf:Value→Option Nat
 | .pointer (some a)=>some a.block
 | .slice (some a) _ _=>some a.block
 | _=>none

section
variable {P : Program} {l : List Oper} {n : Nat}

def dstOf (l:List Oper) (i:Nat):Nat:=((l[i]?).bind (·.dst)).getD 0

def dstB (l:List Oper) (n sz:Nat):Bool :=
 (List.range n).all fun i=>((l[i]?).bind (·.dst)).isSome && decide (dstOf l i<sz) && (List.range n).all fun j=>decide (i=j)||decide (dstOf l i≠dstOf l j)

theorem dstB_spec {sz:Nat} (h:dstB l n sz=true) {i:Nat} (hi:i<n):(∃ o,l[i]? = some o∧o.dst=some (dstOf l i))∧dstOf l i<sz∧∀ j,j<n→i≠j→dstOf l i≠dstOf l j:=by
 have h1:=List.all_eq_true.1 h i (List.mem_range.2 hi)
 simp only [Bool.and_eq_true,decide_eq_true_eq] at h1
 obtain ⟨⟨h2,h3⟩,h4⟩:=h1
 refine ⟨?_,h3,fun j hj hne=>?_⟩
 ·cases ho:l[i]? with
  | none=>simp [ho] at h2
  | some o =>
   refine ⟨o,rfl,?_⟩
   cases hd:o.dst with
   | none=>simp [ho,hd] at h2
   | some d=>simp [dstOf,ho,hd]
 ·have h5:=List.all_eq_true.1 h4 j (List.mem_range.2 hj)
  simp only [Bool.or_eq_true,decide_eq_true_eq] at h5
  rcases h5 with h5|h5
  ·exact absurd h5 hne
  ·exact h5

structure Notes (l:List Oper) (n:Nat) (Φ:Nat→Value→World→Prop) (fresh:Nat→Bool) (a0:Act) (w0:World) (L:Array Bool) (a:Act) (w:World):Prop where
 ext:Below w0.heap.size w0 w
 defers:a.defers=a0.defers
 size:a.tmps.size=a0.tmps.size
 rest:∀ k,(∀ i,i<n→dstOf l i≠k)→a.tmps[k]? = a0.tmps[k]?
 note:∀ i,i<n→L.getD i false=true→∃ v,a.tmps[dstOf l i]? = some v∧Φ i v w∧(fresh i=true→∃ B,blkOf v=some B∧w0.heap.size≤B∧B<w.heap.size)
 apart:∀ i j,i<n→j<n→i≠j→L.getD i false=true→L.getD j false=true→fresh i=true→fresh j=true→(a.tmps[dstOf l i]?).bind blkOf≠(a.tmps[dstOf l j]?).bind blkOf

theorem put_at {a:Act} {d k:Nat} {v:Value} (h:d≠k):(a.put (some d) v).tmps[k]? = a.tmps[k]?:=by
 simp only [Act.put];rw [Array.getElem?_setIfInBounds_ne h]
theorem put_self {a:Act} {d:Nat} {v:Value} (h:d<a.tmps.size):(a.put (some d) v).tmps[d]? = some v:=by
 simp only [Act.put];rw [Array.getElem?_setIfInBounds_self_of_lt h]

theorem Notes.step {Φ:Nat→Value→World→Prop} {fresh:Nat→Bool} {a0:Act} {w0:World} {L:Array Bool} {a:Act} {w w':World} {i:Nat} {v:Value}
  (h:Notes l n Φ fresh a0 w0 L a w) (hd:dstB l n a0.tmps.size=true) (hS:∀ i,i<n→∀ v w w',Φ i v w→Below w.heap.size w w'→Φ i v w')
  (hi:i<n) (hb:Below w.heap.size w w') (hv:Φ i v w') (hf:fresh i=true→∃ B,blkOf v=some B∧w.heap.size≤B∧B<w'.heap.size) :
  Notes l n Φ fresh a0 w0 (L.setIfInBounds i true) (a.put (some (dstOf l i)) v) w':=by
 have hdi:=dstB_spec hd hi
 have hlt:dstOf l i<a.tmps.size:=by rw [h.size];exact hdi.2.1
 have other:∀ j,j<n→j≠i→(a.put (some (dstOf l i)) v).tmps[dstOf l j]? = a.tmps[dstOf l j]?:=fun j hj hne=>put_at (hdi.2.2 j hj (Ne.symm hne))
 have lis:∀ j,j≠i→(L.setIfInBounds i true).getD j false=true→L.getD j false=true:=fun j hne hl=>by
  rw [getD_set_ne false (Ne.symm hne)] at hl;exact hl
 refine ⟨h.ext.trans (hb.mono h.ext.size),h.defers,?_,?_,?_,?_⟩
 ·simp only [Act.put,Array.size_setIfInBounds];exact h.size
 ·intro k hk
  rw [put_at (hk i hi)];exact h.rest k hk
 ·intro j hj hl
  by_cases hji:j=i
  ·subst hji
   exact ⟨v,put_self hlt,hv,fun hfr=>by
    obtain ⟨B,h1,h2,h3⟩:=hf hfr
    exact ⟨B,h1,Nat.le_trans h.ext.size h2,h3⟩⟩
  ·obtain ⟨u,h1,h2,h3⟩:=h.note j hj (lis j hji hl)
   refine ⟨u,by rw [other j hj hji];exact h1,hS j hj u w w' h2 hb,fun hfr=>?_⟩
   obtain ⟨B,h4,h5,h6⟩:=h3 hfr
   exact ⟨B,h4,h5,Nat.lt_of_lt_of_le h6 hb.size⟩
 ·intro j k hj hk hne hlj hlk hfj hfk
  have old:∀ m,m<n→m≠i→L.getD m false=true→fresh m=true→∃ B,(a.tmps[dstOf l m]?).bind blkOf=some B∧B<w.heap.size:=fun m hm _ hl hfr=>by
   obtain ⟨u,h1,_,h3⟩:=h.note m hm hl
   obtain ⟨B,h4,_,h6⟩:=h3 hfr
   exact ⟨B,by rw [h1];exact h4,h6⟩
  by_cases hji:j=i
  ·subst hji
   rw [other k hk (Ne.symm hne),put_self hlt]
   obtain ⟨B,h1,h2,_⟩:=hf hfj
   obtain ⟨B',h3,h4⟩:=old k hk (Ne.symm hne) (lis k (Ne.symm hne) hlk) hfk
   rw [h3]
   show blkOf v≠_
   rw [h1];intro e;cases e;omega
  ·by_cases hki:k=i
   ·subst hki
    rw [other j hj hji,put_self hlt]
    obtain ⟨B,h1,h2,_⟩:=hf hfk
    obtain ⟨B',h3,h4⟩:=old j hj hji (lis j hji hlj) hfj
    rw [h3]
    show _≠blkOf v
    rw [h1];intro e;cases e;omega
   ·rw [other j hj hji,other k hk hki]
    exact h.apart j k hj hk hne (lis j hji hlj) (lis k hki hlk) hfj hfk

variable {md : Region.Mode}

theorem exists_ready2 (hn:n≤l.length) (hf:headFwd md (l.take n)=true) {L:Array Bool} (hz:L.size=l.length):∀ i:Nat,i<n→L[i]? = some false→∃ j,j∈Region.ready md l.toArray L:=by
 intro i
 induction i using Nat.strongRecOn with
 | _ i ih =>
  intro hin h
  have hi:i<l.length:=by omega
  have ht:(l.take n)[i]? = some l[i]:=by rw [List.getElem?_take,if_pos hin,List.getElem?_eq_getElem hi]
  by_cases hall:∀ e∈(l[i]).after,Region.binds md e=true→L.getD e.on false=true
  ·refine ⟨i,mem_ready.2 ⟨by simp [Array.getD_eq_getD_getElem?,h],l[i],by simp [hi],hall⟩⟩
  ·simp only [Classical.not_forall] at hall
   obtain ⟨e,he,hb,hno⟩:=hall
   have hlt:=(headFwd_spec hf ht).1 e he hb
   refine ih e.on hlt (by omega) ?_
   have hz2:e.on<L.size:=by omega
   rw [Array.getElem?_eq_getElem hz2]
   simp [Array.getD_eq_getD_getElem?,Array.getElem?_eq_getElem hz2] at hno
   rw [hno]

theorem notes_any {Q:Exit→Act→World→Prop} {Φ:Nat→Value→World→Prop} {fresh:Nat→Bool} {a0:Act} {w0:World} {g:Nat} (hn:n≤l.length)
  (hw:n=l.length∨(Region.sinkB md l.toArray n=true∧Region.chainB md l.toArray n=true)) (hd:dstB l n a0.tmps.size=true) (hf:headFwd md (l.take n)=true)
  (hS:∀ i,i<n→∀ v w w',Φ i v w→Below w.heap.size w w'→Φ i v w')
  (hR:∀ i o,l[i]? = some o→i<n→∀ a w,Below w0.heap.size w0 w→(∀ k,(∀ j,j<n→dstOf l j≠k)→a.tmps[k]? = a0.tmps[k]?) →
   (∀ e∈o.after,Region.binds md e=true→∃ v,a.tmps[dstOf l e.on]? = some v∧Φ e.on v w) →
   (Region.wanted o (yielded l.toArray a.tmps)=true→Oper.doesR P o a w fun v w'=>Below w.heap.size w w'∧Φ i v w'∧(fresh i=true→∃ B,blkOf v=some B∧w.heap.size≤B∧B<w'.heap.size)) ∧
   (Region.wanted o (yielded l.toArray a.tmps)=false→Φ i undef w∧fresh i=false))
  (hT:∀ (L:Array Bool) a w,Notes l n Φ fresh a0 w0 L a w→L.size=l.length→(∀ i,i<n→L[i]? = some true)→(∀ i,n≤i→i<l.length→L[i]? = some false)→wpAny P md l.toArray Q g L a w) :
  ∀ (fuel:Nat) (L:Array Bool) (a:Act) (w:World),HeadInv md l.toArray n L→Notes l n Φ fresh a0 w0 L a w→((L.toList.take n).filter (!·)).length=fuel→wpAny P md l.toArray Q (fuel+g) L a w:=by
 intro fuel
 induction fuel with
 | zero =>
  intro L a w inv H hcnt
  have hz:L.size=l.length:=by have:=inv.size;simpa using this
  rw [Nat.zero_add]
  refine hT L a w H hz (fun i hi=>?_) (fun i h1 h2=>?_)
  ·have:=count_zero hcnt i (by simp;omega)
   rw [List.getElem?_take,if_pos hi,Array.getElem?_toList] at this
   exact this
  ·have:=inv.tail i h1 (by simpa using h2)
   have hz2:i<L.size:=by omega
   rw [Array.getElem?_eq_getElem hz2]
   simp [Array.getD_eq_getD_getElem?,Array.getElem?_eq_getElem hz2] at this
   rw [this]
 | succ fuel ih =>
  intro L a w inv H hcnt
  have hz:L.size=l.length:=by have:=inv.size;simpa using this
  obtain ⟨u,hu⟩:=count_pos hcnt
  have hun:u<n:=by have:=(List.getElem?_eq_some_iff.1 hu).1;simp at this;omega
  have hu':L[u]? = some false:=by rw [List.getElem?_take,if_pos hun,Array.getElem?_toList] at hu;exact hu
  have hLu:L.getD u true=false:=by simp [Array.getD_eq_getD_getElem?,hu']
  rw [show fuel+1+g=(fuel+g)+1 by omega]
  refine ⟨fun h0=>?_,fun i hi=>?_⟩
  ·obtain ⟨j,hj⟩:=exists_ready2 hn hf hz u hun hu'
   rw [h0] at hj;cases hj
  ·obtain ⟨h1,o,ho,hall⟩:=mem_ready.1 hi
   have hil:i<l.length:=by have:=(Array.getElem?_eq_some_iff.1 ho).1;simpa using this
   have hin:i<n:=by
    rcases hw with e|⟨hs,hc⟩
    ·omega
    ·rcases Nat.lt_or_ge i n with h|h
     ·exact h
     ·exact absurd hi (tail_waits hs hc (by simp;omega) inv _ u rfl hun hLu i h)
   have hol:l[i]? = some o:=by simpa using ho
   have hoH:(l.take n)[i]? = some o:=by rw [List.getElem?_take,if_pos hin];exact hol
   have hdi:=dstB_spec hd hin
   have hdst:o.dst=some (dstOf l i):=by
    obtain ⟨o',h2,h3⟩:=hdi.1
    rw [hol] at h2;cases h2;exact h3
   have hLi:L[i]? = some false:=by
    have hz2:i<L.size:=by omega
    rw [Array.getElem?_eq_getElem hz2]
    simp [Array.getD_eq_getD_getElem?,Array.getElem?_eq_getElem hz2] at h1
    rw [h1]
   have hR':=hR i o hol hin a w H.ext H.rest (fun e he hb=>by
    have hlt:=(headFwd_spec hf hoH).1 e he hb
    obtain ⟨v,h2,h3,_⟩:=H.note e.on (by omega) (hall e he hb)
    exact ⟨v,h2,h3⟩)
   have next:∀ v w',Below w.heap.size w w'→Φ i v w'→(fresh i=true→∃ B,blkOf v=some B∧w.heap.size≤B∧B<w'.heap.size) →
     wpAny P md l.toArray Q (fuel+g) (L.setIfInBounds i true) (a.put o.dst v) w':=by
    intro v w' hb hv hfr
    rw [hdst]
    refine ih _ _ w' (inv.set hi hin) (H.step hd hS hin hb hv hfr) ?_
    have:=count_set (L.toList.take n) i (by rw [List.getElem?_take,if_pos hin,Array.getElem?_toList];exact hLi)
    rw [Array.toList_setIfInBounds,List.take_set];omega
   unfold wpOp
   rw [ho]
   dsimp only
   cases hwt:Region.wanted o (yielded l.toArray a.tmps)
   ·rw [if_neg (by simp)]
    obtain ⟨h2,h3⟩:=hR'.2 hwt
    exact next undef w (Below.refl _ _) h2 (fun h=>by rw [h3] at h;cases h)
   ·rw [if_pos rfl]
    exact .inl (wp_of_does (hR'.1 hwt) fun v w' hv=>next v w' hv.1 hv.2.1 hv.2.2)

def putsFrom (u:Nat→Value):Nat→List Oper→Act→Act
 | _,[],a=>a
 | k,o :: os,a=>putsFrom u (k+1) os (a.put o.dst (u k))
theorem putsFrom_snoc (u:Nat→Value) (o:Oper):∀ (os:List Oper) (k:Nat) (a:Act),putsFrom u k (os++[o]) a=(putsFrom u k os a).put o.dst (u (k+os.length))
 | [],_,_=>rfl
 | p :: os,k,a=>by
  show putsFrom u (k+1) (os++[o]) _=_
  rw [putsFrom_snoc u o os (k+1)]
  show _=(putsFrom u (k+1) os _).put o.dst (u (k+(os.length+1)))
  rw [show k+1+os.length=k+(os.length+1) by omega]

theorem putsFrom_spec (u:Nat→Value) {a0:Act} (hd:dstB l n a0.tmps.size=true):∀ m,m≤n→(putsFrom u 0 (l.take m) a0).tmps.size=a0.tmps.size∧(putsFrom u 0 (l.take m) a0).defers=a0.defers ∧
  (∀ j,j<m→(putsFrom u 0 (l.take m) a0).tmps[dstOf l j]? = some (u j))∧(∀ k,(∀ j,j<n→dstOf l j≠k)→(putsFrom u 0 (l.take m) a0).tmps[k]? = a0.tmps[k]?)
 | 0,_=>by simp [putsFrom]
 | m+1,h=>by
  obtain ⟨h1,h2,h3,h4⟩:=putsFrom_spec u hd m (by omega)
  obtain ⟨⟨o,ho,hdo⟩,hlt,hne⟩:=dstB_spec hd (show m<n by omega)
  have hm:m<l.length:=(List.getElem?_eq_some_iff.1 ho).1
  have e:l.take (m+1)=l.take m++[o]:=by
   rw [List.take_add_one,ho];rfl
  have hlen:(l.take m).length=m:=by simp;omega
  rw [e,putsFrom_snoc,hlen,Nat.zero_add,hdo]
  refine ⟨by simp only [Act.put,Array.size_setIfInBounds];exact h1,h2,fun j hj=>?_,fun k hk=>?_⟩
  ·by_cases hjm:j=m
   ·subst hjm;exact put_self (by rw [h1];exact hlt)
   ·rw [put_at (hne j (by omega) (Ne.symm hjm))];exact h3 j (by omega)
  ·rw [put_at (hk m (by omega))];exact h4 k hk

theorem act_ext {a b:Act} (h:a.defers=b.defers) (hs:a.tmps.size=b.tmps.size) (ht:∀ k:Nat,a.tmps[k]? = b.tmps[k]?):a=b:=by
 cases a;cases b
 simp only at h hs ht
 rw [h,Array.ext_getElem? ht]

def cellsAre (B:Nat) (w:World):Nat→List Value→Prop
 | _,[]=>True
 | k,c :: cs=>w.cell? ⟨B,k,none⟩=some c∧w.frozen? ⟨B,k,none⟩=false∧cellsAre B w (k+1) cs
theorem cellsAre.after {B:Nat} {w w':World} (hb:Below w.heap.size w w') (hB:B<w.heap.size):∀ {cs:List Value} {k:Nat},cellsAre B w k cs→cellsAre B w' k cs
 | [],_,_=>trivial
 | _ :: _,_,⟨h1,h2,h3⟩=>⟨by rw [hb.cell (p:=⟨B,_,none⟩) hB];exact h1,by rw [hb.frozen (p:=⟨B,_,none⟩) hB];exact h2,h3.after hb hB⟩

inductive Note where
 | val (v:Value)
 | ptr (cs:List Value)
 | slc (len cap:Nat) (cs:List Value)
 | such (p:Value→Prop)
 | row (T:TypeId) (len cap:Nat) (cs:List Value)
 | fits (p:Value→World→Prop) (hs:∀ v w w',p v w→Below w.heap.size w w'→p v w')
def Note.phi (B0:Nat):Note→Value→World→Prop
 | .val v,u,_=>u=v
 | .ptr cs,u,w=>∃ B,u=.pointer (some ⟨B,0,none⟩)∧B0≤B∧B<w.heap.size∧cellsAre B w 0 cs
 | .slc len cap cs,u,w=>∃ B,u=.slice (some ⟨B,0,none⟩) len cap∧B0≤B∧B<w.heap.size∧cellsAre B w 0 cs
 | .such p,u,_=>p u
 | .row T len cap cs,u,w=>∃ B,u=.slice (some ⟨B,0,none⟩) len cap∧B0≤B∧B<w.heap.size∧w.heap[B]? = some (.cells cs.toArray T (0,0))
 | .fits p _,u,w=>p u w
def Note.fresh:Note→Bool
 | .ptr _=>true
 | .slc _ _ _=>true
 | .row _ _ _ _=>true
 | _=>false
theorem Note.stays {B0:Nat} {N:Note} {u:Value} {w w':World} (h:N.phi B0 u w) (hb:Below w.heap.size w w'):N.phi B0 u w':=by
 cases N with
 | val v=>exact h
 | such p=>exact h
 | fits p hs=>exact hs _ _ _ h hb
 | ptr cs =>
  obtain ⟨B,h1,h2,h3,h4⟩:=h
  exact ⟨B,h1,h2,Nat.lt_of_lt_of_le h3 hb.size,h4.after hb h3⟩
 | slc n c cs =>
  obtain ⟨B,h1,h2,h3,h4⟩:=h
  exact ⟨B,h1,h2,Nat.lt_of_lt_of_le h3 hb.size,h4.after hb h3⟩
 | row T n c cs =>
  obtain ⟨B,h1,h2,h3,h4⟩:=h
  exact ⟨B,h1,h2,Nat.lt_of_lt_of_le h3 hb.size,(hb.block B h3).trans h4⟩
theorem Note.lower {B0 B1:Nat} {N:Note} {u:Value} {w:World} (h:N.phi B1 u w) (hb:B0≤B1):N.phi B0 u w:=by
 cases N with
 | val v=>exact h
 | such p=>exact h
 | fits p hs=>exact h
 | ptr cs =>
  obtain ⟨B,h1,h2,h3⟩:=h
  exact ⟨B,h1,Nat.le_trans hb h2,h3⟩
 | slc n c cs =>
  obtain ⟨B,h1,h2,h3⟩:=h
  exact ⟨B,h1,Nat.le_trans hb h2,h3⟩
 | row T n c cs =>
  obtain ⟨B,h1,h2,h3⟩:=h
  exact ⟨B,h1,Nat.le_trans hb h2,h3⟩
theorem Note.made {B0:Nat} {N:Note} {u:Value} {w:World} (h:N.phi B0 u w) (hf:N.fresh=true):∃ B,blkOf u=some B∧B0≤B∧B<w.heap.size:=by
 cases N with
 | val v=>cases hf
 | such p=>cases hf
 | fits p hs=>cases hf
 | ptr cs =>
  obtain ⟨B,rfl,h2,h3,_⟩:=h
  exact ⟨B,rfl,h2,h3⟩
 | slc n c cs =>
  obtain ⟨B,rfl,h2,h3,_⟩:=h
  exact ⟨B,rfl,h2,h3⟩
 | row T n c cs =>
  obtain ⟨B,rfl,h2,h3,_⟩:=h
  exact ⟨B,rfl,h2,h3⟩

def postN (R:Value→World→Prop) (d:Nat) (ds:List Deferred):Exit→Act→World→Prop
 | .normal,a,w=>a.defers=ds∧R (a.tmps.getD d undef) w
 | _,_,_=>False
theorem wp_of_list {P:Program} {o:Oper} {a:Act} {w:World} {R:Value→World→Prop} {d:Nat} {ds:List Deferred} (hg:o.guard=none) (h:wpList P #[] (postN R d ds) [o] a w) :
  o.wp P a w (fun a' w'=>a'.defers=ds∧R (a'.tmps.getD d undef) w') (postN R d ds):=by
 have hw:Region.wanted o (yielded #[] a.tmps)=true:=by unfold Region.wanted;rw [hg]
 unfold wpList at h
 rw [if_pos hw] at h
 rcases h with h|⟨_,_,_,h⟩
 ·exact h
 ·exact h.elim

theorem doesR_of_wp {o:Oper} {a:Act} {w:World} {d:Nat} {R:Value→World→Prop} (hd:o.dst=some d) (hlt:d<a.tmps.size)
  (h:o.wp P a w (fun a' w'=>a'.defers=a.defers∧R (a'.tmps.getD d undef) w') (postN R d a.defers)):Oper.doesR P o a w R:=by
 have got:∀ {b:Act},d<b.tmps.size→∀ v,(b.put (some d) v).tmps.getD d undef=v:=fun {b} hb v=>by
  rw [Array.getD_eq_getD_getElem?,put_self hb];rfl
 unfold Oper.wp at h
 unfold Oper.doesR
 generalize (execOp a.eval o).run P w=r at *
 cases r with
 | ok x w' =>
  cases x <;> simp only [Oper.upon,hd] at h <;> simp only [doesUpon]
  case value u=>have:=h.2;rwa [got hlt] at this
  case skip=>have:=h.2;rwa [got hlt] at this
  case enter f args =>
   refine h.mono fun e w'' h'=>?_
   cases e with
   | returned v=>exact ⟨v,rfl,by have:=h'.2;rwa [got hlt] at this⟩
   | panicked c=>exact h'.elim
   | outgrown=>obtain ⟨_,_,h3⟩:=h';exact h3.elim
  case row row args =>
   refine h.mono fun v w'' h'=>?_
   have:=h'.2;rwa [got hlt] at this
  case defer d=>have:=congrArg List.length h.1;simp [Act.put] at this
 | halt x w'=>cases x <;> simp only [Oper.upon,postN] at h

def indepB (md:Region.Mode) (l:List Oper) (n:Nat):Bool :=
 (List.range n).all fun i=>match l[i]? with
  | some o=>o.guard.isNone && (match o.op with | .select _ _=>false|_=>true) && o.op.operands.all fun x=>match x with
   | .tmp t=>(List.range n).all fun j=>decide (dstOf l j≠t)||o.after.any fun e=>Region.binds md e && decide (e.on=j)
   | _=>true
  | none=>false

def StepN (P:Program) (N:List Note) (a0:Act) (w0:World) (pre:List Oper) (o:Oper):Prop :=
 ∀ (u:Nat→Value) (x:World),Below w0.heap.size w0 x→(∀ e∈o.after,Region.binds .any e=true→(N.getD e.on (.val undef)).phi w0.heap.size (u e.on) x) →
  wpList P #[] (postN (fun v w'=>Below x.heap.size x w'∧(N.getD pre.length (.val undef)).phi x.heap.size v w') (o.dst.getD 0) a0.defers) [o] (putsFrom u 0 pre a0) x
def StepsN (P:Program) (N:List Note) (a0:Act) (w0:World):List Oper→List Oper→Prop
 | _,[]=>True
 | pre,o :: os=>StepN P N a0 w0 pre o∧StepsN P N a0 w0 (pre++[o]) os

theorem StepsN.at {P:Program} {N:List Note} {a0:Act} {w0:World}:∀ {os pre:List Oper} {i:Nat} {o:Oper},StepsN P N a0 w0 pre os→os[i]? = some o→StepN P N a0 w0 (pre++os.take i) o
 | [],_,_,_,_,h=>by simp at h
 | p :: os,pre,0,o,hs,h=>by
  simp at h;subst h
  simpa using hs.1
 | p :: os,pre,i+1,o,hs,h=>by
  have:=StepsN.at hs.2 (i:=i) (o:=o) (by simpa using h)
  simpa using this

def noteB (md:Region.Mode) (l:List Oper) (n sz:Nat):Bool :=
 decide (n≤l.length) && (decide (n=l.length)||(Region.sinkB md l.toArray n && Region.chainB md l.toArray n)) && dstB l n sz && headFwd md (l.take n) && indepB md l n && Region.seqB md l.toArray (l.length-n) n ((List.replicate n true++List.replicate (l.length-n) false).toArray)

theorem indepB_spec {md:Region.Mode} {l:List Oper} {n i:Nat} {o:Oper} (h:indepB md l n=true) (hi:i<n) (ho:l[i]? = some o) :
  o.guard=none∧(∀ cs b,o.op≠.select cs b)∧∀ t,.tmp t∈o.op.operands→∀ j,j<n→dstOf l j=t→∃ e∈o.after,Region.binds md e=true∧e.on=j:=by
 have h1:=List.all_eq_true.1 h i (List.mem_range.2 hi)
 rw [ho] at h1
 simp only [Bool.and_eq_true] at h1
 obtain ⟨⟨h2,h3⟩,h4⟩:=h1
 refine ⟨by simpa using h2,(fun cs b e=>by rw [e] at h3;cases h3),fun t ht j hj hd=>?_⟩
 have h5:=(Array.all_eq_true'.1 h4) _ ht
 have h6:=List.all_eq_true.1 h5 j (List.mem_range.2 hj)
 simp only [hd,ne_eq,not_true,decide_false,Bool.false_or] at h6
 obtain ⟨e,he,h7⟩:=Array.any_eq_true'.1 h6
 simp only [Bool.and_eq_true,decide_eq_true_eq] at h7
 exact ⟨e,he,h7⟩

theorem wp_region_notes {P:Program} {l:List Oper} {id:Nat} {Q:Exit→Act→World→Prop} {a0:Act} {w0:World} (N:List Note) {sz:Nat} (hsz:a0.tmps.size=sz) (hm:P.follows .mixedOrders=true) (hB:noteB .any l N.length sz=true)
  (hs:StepsN P N a0 w0 [] (l.take N.length))
  (hK:∀ (u:Nat→Value) (x:World),Below w0.heap.size w0 x→(∀ i,i<N.length→(N.getD i (.val undef)).phi w0.heap.size (u i) x) →
   (∀ i j,i<N.length→j<N.length→i≠j→(N.getD i (.val undef)).fresh=true→(N.getD j (.val undef)).fresh=true→blkOf (u i)≠blkOf (u j))→wpList P l.toArray Q (l.drop N.length) (putsFrom u 0 (l.take N.length) a0) x) :
  (Code.region id l.toArray true).wp P Q a0 w0:=by
 subst hsz
 generalize hn0:N.length=n at *
 simp only [noteB,Bool.and_eq_true,Bool.or_eq_true,decide_eq_true_eq] at hB
 obtain ⟨⟨⟨⟨⟨hn,hw⟩,hd⟩,hf⟩,hin⟩,hseq⟩:=hB
 refine wp_region_any hm ?_
 have e0:Below w0.heap.size w0 { w0 with drawn:=w0.drawn+1 }:=(Below.refl _ _).drew
 have inv0:HeadInv .any l.toArray n (Array.replicate l.toArray.size false) :=
  ⟨by simp,fun j oj _ hl=>(by rw [getD_replicate_false] at hl;cases hl),fun t _ ht=>getD_in (by simpa using ht) (getD_replicate_false _ _)⟩
 have H0:Notes l n (fun i=>(N.getD i (.val undef)).phi w0.heap.size) (fun i=>(N.getD i (.val undef)).fresh) a0 { w0 with drawn:=w0.drawn+1 } (Array.replicate l.toArray.size false) a0 { w0 with drawn:=w0.drawn+1 } :=
  ⟨Below.refl _ _,rfl,rfl,fun _ _=>rfl,fun i _ hl=>(by rw [getD_replicate_false] at hl;cases hl),fun i j _ _ _ hl=>(by rw [getD_replicate_false] at hl;cases hl)⟩
 have:=notes_any (P:=P) (md:=.any) (l:=l) (n:=n) (Q:=Q) (Φ:=fun i=>(N.getD i (.val undef)).phi w0.heap.size) (fresh:=fun i=>(N.getD i (.val undef)).fresh) (a0:=a0) (w0:={ w0 with drawn:=w0.drawn+1 }) (g:=l.length-n) hn hw hd hf
  (fun i _ v w w' h hb=>Note.stays h hb)
  (fun i o ho hi a w hb hrest hdeps=>by
   obtain ⟨hg,hsel,hop⟩:=indepB_spec hin hi ho
   have hwt:Region.wanted o (yielded l.toArray a.tmps)=true:=by unfold Region.wanted;rw [hg]
   refine ⟨fun _=>?_,fun h=>by rw [hwt] at h;cases h⟩
   have hoH:(l.take n)[i]? = some o:=by rw [List.getElem?_take,if_pos hi];exact ho
   have hst:=hs.at hoH
   rw [List.nil_append,List.take_take,Nat.min_eq_left (Nat.le_of_lt hi)] at hst
   have hdi:=dstB_spec hd hi
   have hdst:o.dst=some (dstOf l i):=by
    obtain ⟨o',h2,h3⟩:=hdi.1
    rw [ho] at h2;cases h2;exact h3
   obtain ⟨p1,p2,p3,p4⟩:=putsFrom_spec (l:=l) (n:=n) (fun j=>(a.tmps[dstOf l j]?).getD undef) hd i (Nat.le_of_lt hi)
   have hwp:=hst (fun j=>(a.tmps[dstOf l j]?).getD undef) w (e0.trans hb) (fun e he hbd=>by
    obtain ⟨v,h1,h2⟩:=hdeps e he hbd
    show (N.getD e.on _).phi _ ((a.tmps[dstOf l e.on]?).getD undef) w
    rw [h1];exact h2)
   have hlen:(l.take i).length=i:=by simp;omega
   rw [hlen,hdst] at hwp
   have hwp2:=wp_of_list hg hwp
   rw [←p2] at hwp2
   have hdo:=doesR_of_wp (R:=fun v w'=>Below w.heap.size w w'∧(N.getD i (.val undef)).phi w.heap.size v w') hdst (by rw [p1];exact hdi.2.1) hwp2
   have hcongr:execOp a.eval o=execOp (putsFrom (fun j=>(a.tmps[dstOf l j]?).getD undef) 0 (l.take i) a0).eval o:=by
    refine execOp_congr o hsel fun x hx=>?_
    cases x with
    | tmp t =>
     show a.tmps.getD t undef=(putsFrom _ 0 (l.take i) a0).tmps.getD t undef
     rw [Array.getD_eq_getD_getElem?,Array.getD_eq_getD_getElem?]
     by_cases hj:∃ j,j<n∧dstOf l j=t
     ·obtain ⟨j,hj,rfl⟩:=hj
      obtain ⟨e,he,hbd,rfl⟩:=hop _ hx j hj rfl
      have hlt:=(headFwd_spec hf hoH).1 e he hbd
      obtain ⟨v,h1,_⟩:=hdeps e he hbd
      rw [p3 e.on hlt,h1];rfl
     ·have hno:∀ j,j<n→dstOf l j≠t:=fun j hj' e=>hj ⟨j,hj',e⟩
      rw [p4 t hno,hrest t hno]
    | const v=>rfl
    | global g=>rfl
    | func f=>rfl
   unfold Oper.doesR at hdo ⊢
   rw [hcongr]
   have mono:∀ {r:Result Next} {R R':Value→World→Prop},(∀ v w',R v w'→R' v w')→doesUpon P R r→doesUpon P R' r:=by
    intro r R R' hR h
    cases r with
    | halt x w'=>exact h
    | ok x w' =>
     cases x <;> simp only [doesUpon] at h ⊢
     case value u=>exact hR _ _ h
     case skip=>exact hR _ _ h
     case enter f args=>exact h.mono fun e w'' ⟨u,h1,h2⟩=>⟨u,h1,hR _ _ h2⟩
     case row r ars=>exact h.mono fun v w'' h1=>hR _ _ h1
   refine mono (fun v w' hv=>?_) hdo
   exact ⟨hv.1,Note.lower hv.2 (e0.trans hb).size,fun hfr=>Note.made hv.2 hfr⟩)
  (fun L a w H hz h1 h2=>by
   have eL:L=(List.replicate n true++List.replicate (l.length-n) false).toArray:=by
    apply Array.ext_getElem?
    intro i
    rcases Nat.lt_or_ge i n with hi|hi
    ·rw [h1 i hi];simp [List.getElem?_append,hi]
    ·rcases Nat.lt_or_ge i l.length with h3|h3
     ·rw [h2 i hi h3];simp [List.getElem?_append,Nat.not_lt.2 hi,List.getElem?_replicate];omega
     ·rw [Array.getElem?_eq_none (by omega)];symm;simp;omega
   have lis:∀ i,i<n→L.getD i false=true:=fun i hi=>by rw [Array.getD_eq_getD_getElem?,h1 i hi];rfl
   have ea:a=putsFrom (fun j=>(a.tmps[dstOf l j]?).getD undef) 0 (l.take n) a0:=by
    obtain ⟨p1,p2,p3,p4⟩:=putsFrom_spec (l:=l) (n:=n) (fun j=>(a.tmps[dstOf l j]?).getD undef) hd n (Nat.le_refl n)
    refine act_ext (by rw [p2];exact H.defers) (by rw [p1];exact H.size) fun k=>?_
    by_cases hj:∃ j,j<n∧dstOf l j=k
    ·obtain ⟨j,hj,rfl⟩:=hj
     obtain ⟨v,h3,_⟩:=H.note j hj (lis j hj)
     rw [p3 j hj,h3];rfl
    ·have hno:∀ j,j<n→dstOf l j≠k:=fun j hj' e=>hj ⟨j,hj',e⟩
     rw [p4 k hno,H.rest k hno]
   have hq:=hK (fun j=>(a.tmps[dstOf l j]?).getD undef) w (e0.trans H.ext) (fun i hi=>by
    obtain ⟨v,h3,h4,_⟩:=H.note i hi (lis i hi)
    show (N.getD i _).phi _ ((a.tmps[dstOf l i]?).getD undef) w
    rw [h3];exact h4) (fun i j hi hj hne hfi hfj=>by
    obtain ⟨v,h3,_⟩:=H.note i hi (lis i hi)
    obtain ⟨v',h4,_⟩:=H.note j hj (lis j hj)
    have:=H.apart i j hi hj hne (lis i hi) (lis j hj) hfi hfj
    rw [h3,h4] at this
    show blkOf ((a.tmps[dstOf l i]?).getD undef)≠blkOf ((a.tmps[dstOf l j]?).getD undef)
    rw [h3,h4];exact this)
   rw [←ea] at hq
   rw [eL]
   have hdl:(l.drop n).length=l.length-n:=by simp
   have:=wpAny_of_seq (P:=P) (md:=.any) (ops:=l.toArray) (Q':=Q) (l.drop n) n _ a w (fun j=>by simp [List.getElem?_drop]) (by rw [hdl];exact hseq) hq
   rwa [hdl] at this)
  n (Array.replicate l.toArray.size false) a0 { w0 with drawn:=w0.drawn+1 } inv0 H0 (by simp;omega)
 rw [show n+(l.length-n)=l.toArray.size by simp;omega] at this
 exact this
end

section
variable {P : Program} {l : List Oper} {n : Nat} {md : Region.Mode}

def lateB (md:Region.Mode) (ops:Array Oper) (n e0:Nat):Bool:=Region.chainB md ops n && decide (n<ops.size) && (List.range n).all fun u=>decide (u=e0)||(List.range (n+1)).any fun j=>decide (u<j) && decide (j≠e0) && Region.waitsFor md ops j u
theorem lateB_spec {L:Array Bool} {e0 i:Nat} (h:lateB md l.toArray n e0=true) (inv:HeadInv md l.toArray n L) (hi:i∈Region.ready md l.toArray L) (hge:n≤i) :
  i=n∧∀ u,u<n→u≠e0→L.getD u false=true:=by
 simp only [lateB,Bool.and_eq_true,decide_eq_true_eq] at h
 obtain ⟨⟨hc,hns⟩,hw⟩:=h
 obtain ⟨_,o,ho,hall⟩:=mem_ready.1 hi
 have hlt:i<l.toArray.size:=(Array.getElem?_eq_some_iff.1 ho).1
 have e:i=n:=by
  rcases Nat.decEq i n with hne|he
  ·have h1:=List.all_eq_true.1 hc i (List.mem_range.2 hlt)
   simp only [Bool.or_eq_true,decide_eq_true_eq] at h1
   rcases h1 with h1|h1
   ·omega
   ·obtain ⟨o',ho',ed,he,hb,hon⟩:=Region.waitsFor_spec h1
    rw [ho] at ho';cases ho'
    have h2:=hall ed he hb
    rw [hon,getD_both (inv.tail (i-1) (by omega) (by omega))] at h2
    cases h2
  ·exact he
 subst e
 refine ⟨rfl,?_⟩
 have key:∀ d u,i-u=d→u<i→u≠e0→L.getD u false=true:=by
  intro d
  induction d using Nat.strongRecOn with
  | _ d ih =>
   intro u hd hu hne
   have h1:=List.all_eq_true.1 hw u (List.mem_range.2 hu)
   simp only [Bool.or_eq_true,decide_eq_true_eq,List.any_eq_true,Bool.and_eq_true,List.mem_range] at h1
   rcases h1 with h1|⟨j,hj,⟨hlj,hje⟩,hwj⟩
   ·exact absurd h1 hne
   ·obtain ⟨oj,hoj,ed,he,hb,hon⟩:=Region.waitsFor_spec hwj
    by_cases hji:j=i
    ·subst hji
     rw [ho] at hoj;cases hoj
     have h2:=hall ed he hb
     rwa [hon] at h2
    ·have hlj2:=ih (i-j) (by omega) j rfl (by omega) hje
     have h2:=inv.closed j oj hoj hlj2 ed he hb
     rwa [hon] at h2
 exact fun u hu hne=>key _ u rfl hu hne

def orderB (md:Region.Mode) (ops:Array Oper):List Nat→Array Bool→Bool
 | [],L=>(Region.ready md ops L).isEmpty
 | i :: is,L=>decide (Region.ready md ops L=[i]) && orderB md ops is (L.setIfInBounds i true)
theorem wpAny_of_order {ops:Array Oper} {Q:Exit→Act→World→Prop}:∀ (is:List Nat) (os:List Oper) (L:Array Bool) (a:Act) (w:World),is.length=os.length→(∀ j i o:Nat,True)→(∀ (j:Nat) (i:Nat) (o:Oper),is[j]? = some i→os[j]? = some o→ops[i]? = some o) →
  orderB md ops is L=true→wpList P ops Q os a w→wpAny P md ops Q is.length L a w
 | [],[],L,a,w,_,_,_,hB,h=>⟨by simpa [orderB] using hB,h⟩
 | i :: is,o :: os,L,a,w,hl,ht,hm,hB,h=>by
  have h0:ops[i]? = some o:=hm 0 i o rfl rfl
  simp only [orderB,Bool.and_eq_true,decide_eq_true_eq] at hB
  refine ⟨fun h1=>(by rw [hB.1] at h1;cases h1),fun k hk=>?_⟩
  rw [hB.1] at hk
  have hki:k=i:=by simpa using hk
  subst hki
  have hw:wpOp P ops Q k (wpList P ops Q os) a w:=by unfold wpOp;simp only [h0];exact h
  exact wpOp_mono (fun a' w' h'=>wpAny_of_order is os _ a' w' (by simpa using hl) ht (fun j i' o' h1 h2=>hm (j+1) i' o' (by simpa using h1) (by simpa using h2)) hB.2 h') hw
 | [],_ :: _,_,_,_,hl,_,_,_,_=>by cases hl
 | _ :: _,[],_,_,_,hl,_,_,_,_=>by cases hl

theorem notes_late {Q:Exit→Act→World→Prop} {Φ:Nat→Value→World→Prop} {fresh:Nat→Bool} {a0:Act} {w0:World} {g:Nat} (hn:n≤l.length)
  (e0:Nat) (he0:e0<n) (hw:lateB md l.toArray n e0=true) (hd:dstB l n a0.tmps.size=true) (hf:headFwd md (l.take n)=true)
  (hS:∀ i,i<n→∀ v w w',Φ i v w→Below w.heap.size w w'→Φ i v w')
  (hR:∀ i o,l[i]? = some o→i<n→∀ a w,Below w0.heap.size w0 w→(∀ k,(∀ j,j<n→dstOf l j≠k)→a.tmps[k]? = a0.tmps[k]?) →
   (∀ e∈o.after,Region.binds md e=true→∃ v,a.tmps[dstOf l e.on]? = some v∧Φ e.on v w) →
   (Region.wanted o (yielded l.toArray a.tmps)=true→Oper.doesR P o a w fun v w'=>Below w.heap.size w w'∧Φ i v w'∧(fresh i=true→∃ B,blkOf v=some B∧w.heap.size≤B∧B<w'.heap.size)) ∧
   (Region.wanted o (yielded l.toArray a.tmps)=false→Φ i undef w∧fresh i=false))
  (hT:∀ (L:Array Bool) a w,Notes l n Φ fresh a0 w0 L a w→L.size=l.length→(∀ i,i<n→L[i]? = some true)→(∀ i,n≤i→i<l.length→L[i]? = some false)→wpAny P md l.toArray Q g L a w)
  (hLate:∀ (L:Array Bool) a w,Notes l n Φ fresh a0 w0 L a w→a.tmps[dstOf l e0]? = a0.tmps[dstOf l e0]?→L.size=l.length→(∀ i,i<n→i≠e0→L[i]? = some true)→L[e0]? = some false→(∀ i,n≤i→i<l.length→L[i]? = some false)→wpOp P l.toArray Q n (wpAny P md l.toArray Q g (L.setIfInBounds n true)) a w) :
  ∀ (fuel:Nat) (L:Array Bool) (a:Act) (w:World),HeadInv md l.toArray n L→Notes l n Φ fresh a0 w0 L a w→(L.getD e0 false=false→a.tmps[dstOf l e0]? = a0.tmps[dstOf l e0]?)→((L.toList.take n).filter (!·)).length=fuel→wpAny P md l.toArray Q (fuel+g) L a w:=by
 intro fuel
 induction fuel with
 | zero =>
  intro L a w inv H HU hcnt
  have hz:L.size=l.length:=by have:=inv.size;simpa using this
  rw [Nat.zero_add]
  refine hT L a w H hz (fun i hi=>?_) (fun i h1 h2=>?_)
  ·have:=count_zero hcnt i (by simp;omega)
   rw [List.getElem?_take,if_pos hi,Array.getElem?_toList] at this
   exact this
  ·have:=inv.tail i h1 (by simpa using h2)
   have hz2:i<L.size:=by omega
   rw [Array.getElem?_eq_getElem hz2]
   simp [Array.getD_eq_getD_getElem?,Array.getElem?_eq_getElem hz2] at this
   rw [this]
 | succ fuel ih =>
  intro L a w inv H HU hcnt
  have hz:L.size=l.length:=by have:=inv.size;simpa using this
  obtain ⟨u,hu⟩:=count_pos hcnt
  have hun:u<n:=by have:=(List.getElem?_eq_some_iff.1 hu).1;simp at this;omega
  have hu':L[u]? = some false:=by rw [List.getElem?_take,if_pos hun,Array.getElem?_toList] at hu;exact hu
  have hLu:L.getD u true=false:=by simp [Array.getD_eq_getD_getElem?,hu']
  rw [show fuel+1+g=(fuel+g)+1 by omega]
  refine ⟨fun h0=>?_,fun i hi=>?_⟩
  ·obtain ⟨j,hj⟩:=exists_ready2 hn hf hz u hun hu'
   rw [h0] at hj;cases hj
  ·obtain ⟨h1,o,ho,hall⟩:=mem_ready.1 hi
   have hil:i<l.length:=by have:=(Array.getElem?_eq_some_iff.1 ho).1;simpa using this
   rcases Nat.lt_or_ge i n with hin|hge
   rotate_left
   ·obtain ⟨e1,e2⟩:=lateB_spec hw inv hi hge
    subst e1
    have hundone:∀ v,v<i→L[v]? = some false→v=e0:=fun v hv hvf=>by
     rcases Nat.decEq v e0 with hne|he
     ·have:=e2 v hv hne;rw [Array.getD_eq_getD_getElem?,hvf] at this;cases this
     ·exact he
    obtain rfl:=hundone u hun hu'
    have hdone:∀ v,v<i→v≠u→L[v]? = some true:=fun v hv hne=>by
     have h3:=e2 v hv hne
     have hz2:v<L.size:=by omega
     rw [Array.getElem?_eq_getElem hz2]
     simp [Array.getD_eq_getD_getElem?,Array.getElem?_eq_getElem hz2] at h3
     rw [h3]
    have hf0:fuel=0:=by
     have h4:=count_set (L.toList.take i) u hu
     have h5:(((L.toList.take i).set u true).filter (!·)).length=0:=by
      rcases Nat.eq_zero_or_pos (((L.toList.take i).set u true).filter (!·)).length with h|h
      ·exact h
      ·obtain ⟨v,hv⟩:=count_pos (xs:=(L.toList.take i).set u true) (k:=(((L.toList.take i).set u true).filter (!·)).length-1) (by omega)
       rcases Nat.decEq v u with hne|he
       ·rw [List.getElem?_set_ne (Ne.symm hne)] at hv
        have hvi:v<i:=by have:=(List.getElem?_eq_some_iff.1 hv).1;simp at this;omega
        rw [List.getElem?_take,if_pos hvi,Array.getElem?_toList,hdone v hvi hne] at hv
        cases hv
       ·subst he
        rw [List.getElem?_set_self (by have:=(List.getElem?_eq_some_iff.1 hu).1;exact this)] at hv
        cases hv
     omega
    subst hf0
    rw [Nat.zero_add]
    refine hLate L a w H (HU (by rw [Array.getD_eq_getD_getElem?,hu'];rfl)) hz hdone hu' (fun v h1 h2=>?_)
    have:=inv.tail v h1 (by simpa using h2)
    have hz2:v<L.size:=by omega
    rw [Array.getElem?_eq_getElem hz2]
    simp [Array.getD_eq_getD_getElem?,Array.getElem?_eq_getElem hz2] at this
    rw [this]
   have hol:l[i]? = some o:=by simpa using ho
   have hoH:(l.take n)[i]? = some o:=by rw [List.getElem?_take,if_pos hin];exact hol
   have hdi:=dstB_spec hd hin
   have hdst:o.dst=some (dstOf l i):=by
    obtain ⟨o',h2,h3⟩:=hdi.1
    rw [hol] at h2;cases h2;exact h3
   have hLi:L[i]? = some false:=by
    have hz2:i<L.size:=by omega
    rw [Array.getElem?_eq_getElem hz2]
    simp [Array.getD_eq_getD_getElem?,Array.getElem?_eq_getElem hz2] at h1
    rw [h1]
   have hR':=hR i o hol hin a w H.ext H.rest (fun e he hb=>by
    have hlt:=(headFwd_spec hf hoH).1 e he hb
    obtain ⟨v,h2,h3,_⟩:=H.note e.on (by omega) (hall e he hb)
    exact ⟨v,h2,h3⟩)
   have next:∀ v w',Below w.heap.size w w'→Φ i v w'→(fresh i=true→∃ B,blkOf v=some B∧w.heap.size≤B∧B<w'.heap.size) →
     wpAny P md l.toArray Q (fuel+g) (L.setIfInBounds i true) (a.put o.dst v) w':=by
    intro v w' hb hv hfr
    rw [hdst]
    refine ih _ _ w' (inv.set hi hin) (H.step hd hS hin hb hv hfr) (fun hu0=>?_) ?_
    ·have hne:i≠e0:=fun h=>by
      subst h
      have hz3:i<L.size:=by omega
      simp [hz3] at hu0
     rw [put_at (hdi.2.2 e0 he0 hne)]
     refine HU ?_
     rwa [getD_set_ne false hne] at hu0
    have:=count_set (L.toList.take n) i (by rw [List.getElem?_take,if_pos hin,Array.getElem?_toList];exact hLi)
    rw [Array.toList_setIfInBounds,List.take_set];omega
   unfold wpOp
   rw [ho]
   dsimp only
   cases hwt:Region.wanted o (yielded l.toArray a.tmps)
   ·rw [if_neg (by simp)]
    obtain ⟨h2,h3⟩:=hR'.2 hwt
    exact next undef w (Below.refl _ _) h2 (fun h=>by rw [h3] at h;cases h)
   ·rw [if_pos rfl]
    exact .inl (wp_of_does (hR'.1 hwt) fun v w' hv=>next v w' hv.1 hv.2.1 hv.2.2)

def putsBut (e0:Nat) (u:Nat→Value):Nat→List Oper→Act→Act
 | _,[],a=>a
 | k,o :: os,a=>putsBut e0 u (k+1) os (if k=e0 then a else a.put o.dst (u k))
theorem putsBut_snoc (e0:Nat) (u:Nat→Value) (o:Oper):∀ (os:List Oper) (k:Nat) (a:Act),putsBut e0 u k (os++[o]) a=(if k+os.length=e0 then putsBut e0 u k os a else (putsBut e0 u k os a).put o.dst (u (k+os.length)))
 | [],_,_=>rfl
 | p :: os,k,a=>by
  show putsBut e0 u (k+1) (os++[o]) _=_
  rw [putsBut_snoc e0 u o os (k+1)]
  show _=if k+(os.length+1)=e0 then putsBut e0 u (k+1) os _ else (putsBut e0 u (k+1) os _).put o.dst (u (k+(os.length+1)))
  rw [show k+1+os.length=k+(os.length+1) by omega]
theorem putsBut_spec {e0:Nat} (u:Nat→Value) {a0:Act} (hd:dstB l n a0.tmps.size=true):∀ m,m≤n→(putsBut e0 u 0 (l.take m) a0).tmps.size=a0.tmps.size∧(putsBut e0 u 0 (l.take m) a0).defers=a0.defers ∧
  (∀ j,j<m→j≠e0→(putsBut e0 u 0 (l.take m) a0).tmps[dstOf l j]? = some (u j))∧(∀ k,(∀ j,j<n→j≠e0→dstOf l j≠k)→(putsBut e0 u 0 (l.take m) a0).tmps[k]? = a0.tmps[k]?)
 | 0,_=>by simp [putsBut]
 | m+1,h=>by
  obtain ⟨h1,h2,h3,h4⟩:=putsBut_spec (e0:=e0) u hd m (by omega)
  obtain ⟨⟨o,ho,hdo⟩,hlt,hne⟩:=dstB_spec hd (show m<n by omega)
  have hm:m<l.length:=(List.getElem?_eq_some_iff.1 ho).1
  have e:l.take (m+1)=l.take m++[o]:=by
   rw [List.take_add_one,ho];rfl
  have hlen:(l.take m).length=m:=by simp;omega
  rw [e,putsBut_snoc,hlen,Nat.zero_add,hdo]
  by_cases he:m=e0
  ·rw [if_pos he]
   exact ⟨h1,h2,fun j hj hje=>h3 j (by omega) hje,h4⟩
  ·rw [if_neg he]
   refine ⟨by simp only [Act.put,Array.size_setIfInBounds];exact h1,h2,fun j hj hje=>?_,fun k hk=>?_⟩
   ·by_cases hjm:j=m
    ·subst hjm;exact put_self (by rw [h1];exact hlt)
    ·rw [put_at (hne j (by omega) (Ne.symm hjm))];exact h3 j (by omega) hje
   ·rw [put_at (hk m (by omega) he)];exact h4 k hk

def lateL (len n e0:Nat):Array Bool:=((List.range len).map fun i=>decide (i≤n) && decide (i≠e0)).toArray
def noteLateB (md:Region.Mode) (l:List Oper) (n sz e0:Nat):Bool :=
 decide (n≤l.length) && lateB md l.toArray n e0 && dstB l n sz && headFwd md (l.take n) && indepB md l n && Region.seqB md l.toArray (l.length-n) n ((List.replicate n true++List.replicate (l.length-n) false).toArray) &&
 decide (e0<n) && orderB md l.toArray (e0 :: List.range' (n+1) (l.length-n-1)) (lateL l.length n e0)

theorem wp_region_notes_late {l:List Oper} {id:Nat} {Q:Exit→Act→World→Prop} {a0:Act} {w0:World} (N:List Note) (e0:Nat) {sz:Nat} (hsz:a0.tmps.size=sz) (hm:P.follows .mixedOrders=true) (hB:noteLateB .any l N.length sz e0=true)
  (hs:StepsN P N a0 w0 [] (l.take N.length))
  (hK:∀ (u:Nat→Value) (x:World),Below w0.heap.size w0 x→(∀ i,i<N.length→(N.getD i (.val undef)).phi w0.heap.size (u i) x) →
   (∀ i j,i<N.length→j<N.length→i≠j→(N.getD i (.val undef)).fresh=true→(N.getD j (.val undef)).fresh=true→blkOf (u i)≠blkOf (u j))→wpList P l.toArray Q (l.drop N.length) (putsFrom u 0 (l.take N.length) a0) x)
  (hL:∀ (u:Nat→Value) (x:World),Below w0.heap.size w0 x→(∀ i,i<N.length→i≠e0→(N.getD i (.val undef)).phi w0.heap.size (u i) x) →
   (∀ i j,i<N.length→j<N.length→i≠e0→j≠e0→i≠j→(N.getD i (.val undef)).fresh=true→(N.getD j (.val undef)).fresh=true→blkOf (u i)≠blkOf (u j)) →
   wpList P l.toArray Q ((l.drop N.length).take 1++((l.drop e0).take 1++l.drop (N.length+1))) (putsBut e0 u 0 (l.take N.length) a0) x) :
  (Code.region id l.toArray true).wp P Q a0 w0:=by
 subst hsz
 generalize hn0:N.length=n at *
 simp only [noteLateB,Bool.and_eq_true,decide_eq_true_eq] at hB
 obtain ⟨⟨⟨⟨⟨⟨⟨hn,hw⟩,hd⟩,hf⟩,hin⟩,hseq⟩,he0⟩,hord⟩:=hB
 have hw':=hw
 simp only [lateB,Bool.and_eq_true,decide_eq_true_eq] at hw'
 have hnl:n<l.length:=by have:=hw'.1.2;simpa using this
 clear hw'
 refine wp_region_any hm ?_
 have e1:Below w0.heap.size w0 { w0 with drawn:=w0.drawn+1 }:=(Below.refl _ _).drew
 have inv0:HeadInv .any l.toArray n (Array.replicate l.toArray.size false) :=
  ⟨by simp,fun j oj _ hl=>(by rw [getD_replicate_false] at hl;cases hl),fun t _ ht=>getD_in (by simpa using ht) (getD_replicate_false _ _)⟩
 have H0:Notes l n (fun i=>(N.getD i (.val undef)).phi w0.heap.size) (fun i=>(N.getD i (.val undef)).fresh) a0 { w0 with drawn:=w0.drawn+1 } (Array.replicate l.toArray.size false) a0 { w0 with drawn:=w0.drawn+1 } :=
  ⟨Below.refl _ _,rfl,rfl,fun _ _=>rfl,fun i _ hl=>(by rw [getD_replicate_false] at hl;cases hl),fun i j _ _ _ hl=>(by rw [getD_replicate_false] at hl;cases hl)⟩
 have:=notes_late (P:=P) (md:=.any) (l:=l) (n:=n) (Q:=Q) (Φ:=fun i=>(N.getD i (.val undef)).phi w0.heap.size) (fresh:=fun i=>(N.getD i (.val undef)).fresh) (a0:=a0) (w0:={ w0 with drawn:=w0.drawn+1 }) (g:=l.length-n) hn e0 he0 hw hd hf
  (fun i _ v w w' h hb=>Note.stays h hb)
  (fun i o ho hi a w hb hrest hdeps=>by
   obtain ⟨hg,hsel,hop⟩:=indepB_spec hin hi ho
   have hwt:Region.wanted o (yielded l.toArray a.tmps)=true:=by unfold Region.wanted;rw [hg]
   refine ⟨fun _=>?_,fun h=>by rw [hwt] at h;cases h⟩
   have hoH:(l.take n)[i]? = some o:=by rw [List.getElem?_take,if_pos hi];exact ho
   have hst:=hs.at hoH
   rw [List.nil_append,List.take_take,Nat.min_eq_left (Nat.le_of_lt hi)] at hst
   have hdi:=dstB_spec hd hi
   have hdst:o.dst=some (dstOf l i):=by
    obtain ⟨o',h2,h3⟩:=hdi.1
    rw [ho] at h2;cases h2;exact h3
   obtain ⟨p1,p2,p3,p4⟩:=putsFrom_spec (l:=l) (n:=n) (fun j=>(a.tmps[dstOf l j]?).getD undef) hd i (Nat.le_of_lt hi)
   have hwp:=hst (fun j=>(a.tmps[dstOf l j]?).getD undef) w (e1.trans hb) (fun e he hbd=>by
    obtain ⟨v,h1,h2⟩:=hdeps e he hbd
    show (N.getD e.on _).phi _ ((a.tmps[dstOf l e.on]?).getD undef) w
    rw [h1];exact h2)
   have hlen:(l.take i).length=i:=by simp;omega
   rw [hlen,hdst] at hwp
   have hwp2:=wp_of_list hg hwp
   rw [←p2] at hwp2
   have hdo:=doesR_of_wp (R:=fun v w'=>Below w.heap.size w w'∧(N.getD i (.val undef)).phi w.heap.size v w') hdst (by rw [p1];exact hdi.2.1) hwp2
   have hcongr:execOp a.eval o=execOp (putsFrom (fun j=>(a.tmps[dstOf l j]?).getD undef) 0 (l.take i) a0).eval o:=by
    refine execOp_congr o hsel fun x hx=>?_
    cases x with
    | tmp t =>
     show a.tmps.getD t undef=(putsFrom _ 0 (l.take i) a0).tmps.getD t undef
     rw [Array.getD_eq_getD_getElem?,Array.getD_eq_getD_getElem?]
     by_cases hj:∃ j,j<n∧dstOf l j=t
     ·obtain ⟨j,hj,rfl⟩:=hj
      obtain ⟨e,he,hbd,rfl⟩:=hop _ hx j hj rfl
      have hlt:=(headFwd_spec hf hoH).1 e he hbd
      obtain ⟨v,h1,_⟩:=hdeps e he hbd
      rw [p3 e.on hlt,h1];rfl
     ·have hno:∀ j,j<n→dstOf l j≠t:=fun j hj' e=>hj ⟨j,hj',e⟩
      rw [p4 t hno,hrest t hno]
    | const v=>rfl
    | global g=>rfl
    | func f=>rfl
   unfold Oper.doesR at hdo ⊢
   rw [hcongr]
   have mono:∀ {r:Result Next} {R R':Value→World→Prop},(∀ v w',R v w'→R' v w')→doesUpon P R r→doesUpon P R' r:=by
    intro r R R' hR h
    cases r with
    | halt x w'=>exact h
    | ok x w' =>
     cases x <;> simp only [doesUpon] at h ⊢
     case value u=>exact hR _ _ h
     case skip=>exact hR _ _ h
     case enter f args=>exact h.mono fun e w'' ⟨u,h1,h2⟩=>⟨u,h1,hR _ _ h2⟩
     case row r ars=>exact h.mono fun v w'' h1=>hR _ _ h1
   refine mono (fun v w' hv=>?_) hdo
   exact ⟨hv.1,Note.lower hv.2 (e1.trans hb).size,fun hfr=>Note.made hv.2 hfr⟩)
  (fun L a w H hz h1 h2=>by
   have eL:L=(List.replicate n true++List.replicate (l.length-n) false).toArray:=by
    apply Array.ext_getElem?
    intro i
    rcases Nat.lt_or_ge i n with hi|hi
    ·rw [h1 i hi];simp [List.getElem?_append,hi]
    ·rcases Nat.lt_or_ge i l.length with h3|h3
     ·rw [h2 i hi h3];simp [List.getElem?_append,Nat.not_lt.2 hi,List.getElem?_replicate];omega
     ·rw [Array.getElem?_eq_none (by omega)];symm;simp;omega
   have lis:∀ i,i<n→L.getD i false=true:=fun i hi=>by rw [Array.getD_eq_getD_getElem?,h1 i hi];rfl
   have ea:a=putsFrom (fun j=>(a.tmps[dstOf l j]?).getD undef) 0 (l.take n) a0:=by
    obtain ⟨p1,p2,p3,p4⟩:=putsFrom_spec (l:=l) (n:=n) (fun j=>(a.tmps[dstOf l j]?).getD undef) hd n (Nat.le_refl n)
    refine act_ext (by rw [p2];exact H.defers) (by rw [p1];exact H.size) fun k=>?_
    by_cases hj:∃ j,j<n∧dstOf l j=k
    ·obtain ⟨j,hj,rfl⟩:=hj
     obtain ⟨v,h3,_⟩:=H.note j hj (lis j hj)
     rw [p3 j hj,h3];rfl
    ·have hno:∀ j,j<n→dstOf l j≠k:=fun j hj' e=>hj ⟨j,hj',e⟩
     rw [p4 k hno,H.rest k hno]
   have hq:=hK (fun j=>(a.tmps[dstOf l j]?).getD undef) w (e1.trans H.ext) (fun i hi=>by
    obtain ⟨v,h3,h4,_⟩:=H.note i hi (lis i hi)
    show (N.getD i _).phi _ ((a.tmps[dstOf l i]?).getD undef) w
    rw [h3];exact h4) (fun i j hi hj hne hfi hfj=>by
    obtain ⟨v,h3,_⟩:=H.note i hi (lis i hi)
    obtain ⟨v',h4,_⟩:=H.note j hj (lis j hj)
    have:=H.apart i j hi hj hne (lis i hi) (lis j hj) hfi hfj
    rw [h3,h4] at this
    show blkOf ((a.tmps[dstOf l i]?).getD undef)≠blkOf ((a.tmps[dstOf l j]?).getD undef)
    rw [h3,h4];exact this)
   rw [←ea] at hq
   rw [eL]
   have hdl:(l.drop n).length=l.length-n:=by simp
   have:=wpAny_of_seq (P:=P) (md:=.any) (ops:=l.toArray) (Q':=Q) (l.drop n) n _ a w (fun j=>by simp [List.getElem?_drop]) (by rw [hdl];exact hseq) hq
   rwa [hdl] at this)
  (fun L a w H hU hz h1 h0 h2=>by
   have lis:∀ i,i<n→i≠e0→L.getD i false=true:=fun i hi hne=>by rw [Array.getD_eq_getD_getElem?,h1 i hi hne];rfl
   have ea:a=putsBut e0 (fun j=>(a.tmps[dstOf l j]?).getD undef) 0 (l.take n) a0:=by
    obtain ⟨p1,p2,p3,p4⟩:=putsBut_spec (l:=l) (n:=n) (e0:=e0) (fun j=>(a.tmps[dstOf l j]?).getD undef) hd n (Nat.le_refl n)
    refine act_ext (by rw [p2];exact H.defers) (by rw [p1];exact H.size) fun k=>?_
    by_cases hj:∃ j,j<n∧j≠e0∧dstOf l j=k
    ·obtain ⟨j,hj,hje,rfl⟩:=hj
     obtain ⟨v,h3,_⟩:=H.note j hj (lis j hj hje)
     rw [p3 j hj hje,h3];rfl
    ·have hno:∀ j,j<n→j≠e0→dstOf l j≠k:=fun j hj' hje e=>hj ⟨j,hj',hje,e⟩
     rw [p4 k hno]
     by_cases hk:dstOf l e0=k
     ·subst hk;exact hU
     ·refine H.rest k fun j hj'=>?_
      by_cases hje:j=e0
      ·subst hje;exact hk
      ·exact hno j hj' hje
   have hq:=hL (fun j=>(a.tmps[dstOf l j]?).getD undef) w (e1.trans H.ext) (fun i hi hie=>by
    obtain ⟨v,h3,h4,_⟩:=H.note i hi (lis i hi hie)
    show (N.getD i _).phi _ ((a.tmps[dstOf l i]?).getD undef) w
    rw [h3];exact h4) (fun i j hi hj hie hje hne hfi hfj=>by
    obtain ⟨v,h3,_⟩:=H.note i hi (lis i hi hie)
    obtain ⟨v',h4,_⟩:=H.note j hj (lis j hj hje)
    have:=H.apart i j hi hj hne (lis i hi hie) (lis j hj hje) hfi hfj
    rw [h3,h4] at this
    show blkOf ((a.tmps[dstOf l i]?).getD undef)≠blkOf ((a.tmps[dstOf l j]?).getD undef)
    rw [h3,h4];exact this)
   rw [←ea] at hq
   have eL:L.setIfInBounds n true=lateL l.length n e0:=by
    apply Array.ext_getElem?
    intro i
    unfold lateL
    rcases Nat.lt_or_ge i l.length with h3|h3
    ·rw [show ((List.range l.length).map fun i=>decide (i≤n) && decide (i≠e0)).toArray[i]? = some (decide (i≤n) && decide (i≠e0)) by simp [List.getElem?_range h3]]
     rcases Nat.lt_trichotomy i n with hi|hi|hi
     ·rw [Array.getElem?_setIfInBounds_ne (by omega)]
      by_cases hie:i=e0
      ·subst hie;rw [h0];simp
      ·rw [h1 i hi hie];simp [hie];omega
     ·subst hi
      rw [Array.getElem?_setIfInBounds_self_of_lt (by omega)];simp;omega
     ·rw [Array.getElem?_setIfInBounds_ne (by omega),h2 i (by omega) h3];simp;omega
    ·rw [Array.getElem?_eq_none (by simp;omega)];symm;simp;omega
   have e2:(l.drop n).take 1=[l[n]]:=by rw [List.drop_eq_getElem_cons hnl];rfl
   have e3:(l.drop e0).take 1=[l[e0]]:=by rw [List.drop_eq_getElem_cons (by omega)];rfl
   rw [e2,e3] at hq
   have hlen:(e0 :: List.range' (n+1) (l.length-n-1)).length=l.length-n:=by simp;omega
   have hw2:wpOp P l.toArray Q n (wpList P l.toArray Q (l[e0] :: l.drop (n+1))) a w:=by
    unfold wpOp
    simp only [List.getElem?_toArray,List.getElem?_eq_getElem hnl]
    exact hq
   refine wpOp_mono (fun a' w' h'=>?_) hw2
   rw [eL,←hlen]
   refine wpAny_of_order _ (l[e0] :: l.drop (n+1)) _ a' w' (by simp;omega) (fun _ _ _=>trivial) (fun j i o hi ho=>?_) hord h'
   cases j with
   | zero =>
    simp only [List.getElem?_cons_zero,Option.some.injEq] at hi ho
    subst hi ho
    simp [List.getElem?_eq_getElem (show e0<l.length by omega)]
   | succ j =>
    simp only [List.getElem?_cons_succ] at hi ho
    rw [List.getElem?_drop] at ho
    have hj:j<l.length-n-1:=by have:=(List.getElem?_eq_some_iff.1 hi).1;simpa using this
    rw [List.getElem?_range' hj] at hi
    simp only [Option.some.injEq] at hi
    subst hi
    simpa using ho)
  n (Array.replicate l.toArray.size false) a0 { w0 with drawn:=w0.drawn+1 } inv0 H0 (fun _=>rfl) (by simp;omega)
 rw [show n+(l.length-n)=l.toArray.size by simp;omega] at this
 exact this
end

end Go.Proofs.YtdeeoddacnealaaGreat