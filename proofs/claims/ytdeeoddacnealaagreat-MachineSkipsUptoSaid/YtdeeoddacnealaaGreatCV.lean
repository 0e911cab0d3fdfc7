/- What the summary holds has committed: plain laws. -/
import Derived.Test.YtdeeoddacnealaaGreatMCR
import Derived.Test.YtdeeoddacnealaaGreatMVG
import Derived.Test.YtdeeoddacnealaaGreatMQG
set_option linter.unusedVariables false
set_option linter.unusedSimpArgs false
namespace Go.Proofs.YtdeeoddacnealaaGreat.C
open Go.RowKit Fl

theorem putI_from {its:List ItV} (hr:rises its) (hp:pos its) (most:Int) (kb:Nat) (n:Int) {x:ItV} (hx:x∈(putI its most kb n).2):x∈its∨(isNaN kb=false∧x.k=kof kb∧x.n=n):=by
 by_cases h0:(putI its most kb n).1=0
 ·obtain ⟨h1,h2,h3,hm⟩:=mem_putI hr hp most kb n h0
  rcases (hm x).1 hx with ⟨h4,_⟩|⟨h4,h5⟩
  ·exact .inl h4
  ·rcases Int.le_total (atI its kb) n with h6|h6
   ·exact .inr ⟨h1,h4,by rw [h5,Int.max_eq_right h6]⟩
   ·rw [Int.max_eq_left h6] at h5
    rcases atI_char (its:=its) kb with ⟨y,hy,h7,h8⟩|h8
    ·have h9:=(code_key h7).2
     have:x=y:=by
      cases x;cases y;simp only at h4 h5 h8 h9 ⊢
      rw [h4,h5,h8,h9]
     exact .inl (this ▸ hy)
    ·omega
 ·rw [putI_same h0] at hx;exact .inl hx
theorem putQ_from {its:List Q.ItV} (hr:Q.rises its) (hp:Q.pos its) (most:Int) (kb:Rg) (ok:okR kb) (n:Int) {x:Q.ItV} (hx:x∈(Q.putI its most kb n).2):x∈its∨(x.k.rg=kb∧x.n=n):=by
 by_cases h0:(Q.putI its most kb n).1=0
 ·obtain ⟨h1,h2,h3,hm⟩:=Q.mem_putI hr hp most kb ok n h0
  rcases (hm x).1 hx with ⟨h4,_⟩|⟨h4,h5⟩
  ·exact .inl h4
  ·rcases Int.le_total (Q.numI its kb) n with h6|h6
   ·exact .inr ⟨by rw [h4,Q.keyR_rg ok h1],by rw [h5,Int.max_eq_right h6]⟩
   ·rw [Int.max_eq_left h6] at h5
    rcases Q.numI_char (its:=its) kb with ⟨y,hy,h7,h8⟩|h8
    ·have h9:=(Q.code_key ok h7).2
     have:x=y:=by
      cases x;cases y;simp only at h4 h5 h8 h9 ⊢
      rw [h4,h5,h8,h9]
     exact .inl (this ▸ hy)
    ·omega
 ·rw [Q.putI_same h0] at hx;exact .inl hx

def From (ds:List RecV) (f:SubV→List Nat) (its:List ItV):Prop:=∀ it∈its,∃ r∈ds,r.num=it.n∧∃ kb∈f r.s,isNaN kb=false∧it.k=kof kb
def FromQ (ds:List RecV) (its:List Q.ItV):Prop:=∀ it∈its,∃ r∈ds,r.num=it.n∧∃ s∈r.s.ss,it.k.rg=s.rg
theorem From.more {ds:List RecV} {f:SubV→List Nat} {its:List ItV} (h:From ds f its) {ds':List RecV} (hs:∀ r∈ds,r∈ds'):From ds' f its:=fun it hi=>by
 obtain ⟨r,h1,h2⟩:=h it hi;exact ⟨r,hs r h1,h2⟩
theorem FromQ.more {ds:List RecV} {its:List Q.ItV} (h:FromQ ds its) {ds':List RecV} (hs:∀ r∈ds,r∈ds'):FromQ ds' its:=fun it hi=>by
 obtain ⟨r,h1,h2⟩:=h it hi;exact ⟨r,hs r h1,h2⟩
structure TbF (ds:List RecV) (f:SubV→List Nat) (its:List ItV):Prop where
 rs:rises its
 ps:pos its
 fr:From ds f its
structure TbQ (ds:List RecV) (its:List Q.ItV):Prop where
 rs:Q.rises its
 ps:Q.pos its
 fr:FromQ ds its
theorem TbF.nil (ds:List RecV) (f:SubV→List Nat):TbF ds f []:=⟨List.Pairwise.nil,pos_nil,fun _ h=>absurd h (by simp)⟩
theorem TbQ.nil (ds:List RecV):TbQ ds []:=⟨List.Pairwise.nil,Q.pos_nil,fun _ h=>absurd h (by simp)⟩
theorem TbF.put {ds:List RecV} {f:SubV→List Nat} {its:List ItV} (h:TbF ds f its) (most:Int) {r:RecV} (hr:r∈ds) {k:Nat} (hk:k∈f r.s):TbF ds f (putI its most k r.num).2 :=
 ⟨putI_rises h.rs most k r.num,putI_pos h.ps most k r.num,fun it hi=>by
  rcases putI_from h.rs h.ps most k r.num hi with h1|⟨h1,h2,h3⟩
  ·exact h.fr it h1
  ·exact ⟨r,hr,h3.symm,k,hk,h1,h2⟩⟩
theorem TbQ.put {ds:List RecV} {its:List Q.ItV} (h:TbQ ds its) (most:Int) {r:RecV} (hr:r∈ds) {s:SpanV} (hk:s∈r.s.ss):TbQ ds (Q.putI its most s.rg r.num).2 :=
 ⟨Q.putI_risesK h.rs most (okR_canon _ _ _ _) r.num,Q.putI_pos h.ps most s.rg r.num,fun it hi=>by
  rcases putQ_from h.rs h.ps most s.rg (okR_canon _ _ _ _) r.num hi with h1|⟨h1,h2⟩
  ·exact h.fr it h1
  ·exact ⟨r,hr,h2.symm,s,hk,h1⟩⟩
structure Tabs (ds:List RecV) (i1 i2 i3:List ItV) (i4:List Q.ItV):Prop where
 h1:TbF ds SubV.ws i1
 h2:TbF ds SubV.ws i2
 h3:TbF ds SubV.rs i3
 h4:TbQ ds i4
theorem Tabs.nil (ds:List RecV):Tabs ds [] [] [] []:=⟨.nil _ _,.nil _ _,.nil _ _,.nil _⟩
def SumS.ok (ds:List RecV) (s:SumS):Prop:=Tabs ds s.i1 s.i2 s.i3 s.i4
theorem sW_ok {ds:List RecV} {m:Int} {r:RecV} (hr:r∈ds) {s:SumS} (h:s.ok ds) {k:Nat} (hk:k∈r.s.ws):(sW m r.num r.out s k).ok ds:=by
 unfold sW
 by_cases ho:r.out=true
 ·rw [if_pos ho];exact ⟨h.h1.put m hr hk,h.h2.put m hr hk,h.h3,h.h4⟩
 ·rw [if_neg ho];exact ⟨h.h1.put m hr hk,h.h2,h.h3,h.h4⟩
theorem sWs_ok {ds:List RecV} {m:Int} {r:RecV} (hr:r∈ds):∀ (ks:List Nat) {s:SumS},s.ok ds→(∀ k∈ks,k∈r.s.ws)→(sWs m r.num r.out s ks).ok ds
 | [],_,h,_=>h
 | k :: ks,s,h,hk=>sWs_ok hr ks (sW_ok hr h (hk k List.mem_cons_self)) fun k' h'=>hk k' (List.mem_cons_of_mem _ h')
theorem sRs_ok {ds:List RecV} {m:Int} {r:RecV} (hr:r∈ds):∀ (ks:List Nat) {s:SumS},s.ok ds→(∀ k∈ks,k∈r.s.rs)→(sRs m r.num s ks).ok ds
 | [],_,h,_=>h
 | k :: ks,s,h,hk=>sRs_ok hr ks (s:=sR m r.num s k) ⟨h.h1,h.h2,h.h3.put m hr (hk k List.mem_cons_self),h.h4⟩ fun k' h'=>hk k' (List.mem_cons_of_mem _ h')
theorem sSs_ok {ds:List RecV} {m:Int} {r:RecV} (hr:r∈ds):∀ (ks:List SpanV) {s:SumS},s.ok ds→(∀ k∈ks,k∈r.s.ss)→(sSs m r.num s ks).ok ds
 | [],_,h,_=>h
 | k :: ks,s,h,hk=>sSs_ok hr ks (s:=sS m r.num s k) ⟨h.h1,h.h2,h.h3,h.h4.put m hr (hk k List.mem_cons_self)⟩ fun k' h'=>hk k' (List.mem_cons_of_mem _ h')
theorem sumS_ok {ds:List RecV} {c:CL} {r:RecV} (hr:r∈ds) (h:Tabs ds c.i1 c.i2 c.i3 c.i4):(sumS c r).ok ds :=
 sSs_ok hr _ (sRs_ok hr _ (sWs_ok hr _ (s:=⟨0,c.i1,c.i2,c.i3,c.i4⟩) h fun _ h=>h) fun _ h=>h) fun _ h=>h

structure Inv (c:CL) (ds:List RecV) (m:Nat):Prop where
 keep:1≤c.keep
 count:c.count=(ds.length:Int)
 nums:∀ i (h:i<ds.length),(ds[i]).num=(i:Int)+1
 recs:c.recs=ds.drop m
 le:m≤ds.length
 few:(c.recs.length:Int)≤c.keep
 h0:0≤c.horizon
 hm:c.horizon≤m
 tabs:Tabs ds c.i1 c.i2 c.i3 c.i4
theorem Inv.num {c:CL} {ds:List RecV} {m:Nat} (h:Inv c ds m) {r:RecV} (hr:r∈ds):1≤r.num∧r.num≤c.count:=by
 obtain ⟨i,hi,rfl⟩:=List.getElem_of_mem hr
 rw [h.nums i hi,h.count];omega
theorem Inv.new (kp m:Int) (hk:1≤kp) (t1 t2 t3 t4:Nat):Inv (CL.n (newC kp m t1 t2 t3 t4)) [] 0 :=
 ⟨hk,rfl,fun i h=>absurd h (Nat.not_lt_zero i),rfl,Nat.le_refl _,by show (0:Int)≤kp;omega,Int.le_refl _,Int.le_refl _,Tabs.nil _⟩
theorem Inv.commit {c:CL} {ds:List RecV} {m:Nat} (h:Inv c ds m) (y:SubV) (out:Bool):∃ m',Inv (c.commit y out) (ds++[⟨c.count+1,y,out⟩]) m'∧m≤m'∧m'≤m+1∧c.horizon≤(c.commit y out).horizon∧(c.commit y out).count=c.count+1∧(c.commit y out).keep=c.keep∧(c.commit y out).old=c.old:=by
 have hsub:∀ r∈ds,r∈ds++[(⟨c.count+1,y,out⟩:RecV)]:=fun r hr=>List.mem_append_left _ hr
 have ht:Tabs (ds++[(⟨c.count+1,y,out⟩:RecV)]) c.i1 c.i2 c.i3 c.i4:=⟨⟨h.tabs.h1.rs,h.tabs.h1.ps,h.tabs.h1.fr.more hsub⟩,⟨h.tabs.h2.rs,h.tabs.h2.ps,h.tabs.h2.fr.more hsub⟩,⟨h.tabs.h3.rs,h.tabs.h3.ps,h.tabs.h3.fr.more hsub⟩,⟨h.tabs.h4.rs,h.tabs.h4.ps,h.tabs.h4.fr.more hsub⟩⟩
 have hn:∀ i (hi:i<(ds++[(⟨c.count+1,y,out⟩:RecV)]).length),((ds++[(⟨c.count+1,y,out⟩:RecV)])[i]).num=(i:Int)+1:=fun i hi=>by
  rw [List.getElem_append]
  by_cases hl:i<ds.length
  ·rw [dif_pos hl];exact h.nums i hl
  ·rw [dif_neg hl]
   rw [List.length_append,List.length_singleton] at hi
   have:i=ds.length:=by omega
   simp only [List.getElem_singleton]
   rw [h.count,this]
 have hcnt:c.count+1=((ds++[(⟨c.count+1,y,out⟩:RecV)]).length:Int):=by rw [h.count];simp
 have hrec:c.recs++[(⟨c.count+1,y,out⟩:RecV)]=(ds++[(⟨c.count+1,y,out⟩:RecV)]).drop m:=by
  rw [List.drop_append_of_le_length h.le,h.recs]
 unfold CL.commit
 simp only
 by_cases hk:c.keep<((c.recs++[(⟨c.count+1,y,out⟩:RecV)]).length:Int)
 ·rw [if_pos hk]
  have hml:m<(ds++[(⟨c.count+1,y,out⟩:RecV)]).length:=by rw [List.length_append];have:=h.le;simp;omega
  have hhd:(c.recs++[(⟨c.count+1,y,out⟩:RecV)]).headD ⟨0,y,out⟩=(ds++[(⟨c.count+1,y,out⟩:RecV)])[m]:=by
   rw [hrec,List.headD_eq_head?_getD,List.head?_drop,List.getElem?_eq_getElem hml];rfl
  have hmem:(c.recs++[(⟨c.count+1,y,out⟩:RecV)]).headD ⟨0,y,out⟩∈ds++[(⟨c.count+1,y,out⟩:RecV)]:=by rw [hhd];exact List.getElem_mem hml
  have hnm:((c.recs++[(⟨c.count+1,y,out⟩:RecV)]).headD ⟨0,y,out⟩).num=(m:Int)+1:=by rw [hhd];exact hn m hml
  have hdrop:(c.recs++[(⟨c.count+1,y,out⟩:RecV)]).drop 1=(ds++[(⟨c.count+1,y,out⟩:RecV)]).drop (m+1):=by rw [hrec,List.drop_drop]
  have hfew:(((c.recs++[(⟨c.count+1,y,out⟩:RecV)]).drop 1).length:Int)≤c.keep:=by
   have:=h.few
   rw [List.length_drop,List.length_append,List.length_singleton];omega
  generalize (c.recs++[(⟨c.count+1,y,out⟩:RecV)]).headD ⟨0,y,out⟩=hd at *
  have hS:=sumS_ok (c:={ c with count:=c.count+1,recs:=c.recs++[(⟨c.count+1,y,out⟩:RecV)] }) hmem ht
  have h0:=h.h0;have h1:=h.hm
  unfold CL.sum
  simp only
  generalize sumS { c with count:=c.count+1,recs:=c.recs++[(⟨c.count+1,y,out⟩:RecV)] } hd=S at *
  by_cases he:S.e=0
  ·rw [if_pos he]
   exact ⟨m+1,⟨h.keep,hcnt,hn,hdrop,hml,hfew,h0,by simp only;omega,hS⟩,by omega,Nat.le_refl _,Int.le_refl _,rfl,rfl,rfl⟩
  ·rw [if_neg he]
   exact ⟨m+1,⟨h.keep,hcnt,hn,hdrop,hml,hfew,by simp only;omega,by simp only;omega,Tabs.nil _⟩,by omega,Nat.le_refl _,by simp only;omega,rfl,rfl,rfl⟩
 ·rw [if_neg hk]
  exact ⟨m,⟨h.keep,hcnt,hn,hrec,by rw [List.length_append];have:=h.le;omega,by simp only;omega,h.h0,h.hm,ht⟩,Nat.le_refl _,by omega,Int.le_refl _,rfl,rfl,rfl⟩

end Go.Proofs.YtdeeoddacnealaaGreat.C