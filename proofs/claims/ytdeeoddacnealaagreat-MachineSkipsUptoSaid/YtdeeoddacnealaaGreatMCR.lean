/- Several texts as one: CR CP CS. -/
import Derived.Test.YtdeeoddacnealaaGreatMCJ
import Derived.Test.YtdeeoddacnealaaGreatMKE
import Derived.Test.YtdeeoddacnealaaGreatMCH
set_option linter.unusedVariables false
set_option linter.unusedSimpArgs false
namespace Go.Proofs.YtdeeoddacnealaaGreat.C
open Go.RowKit Fl
open Go.Proofs.YtdeeoddacnealaaGreat.K (cb cb_code fsort fsort_strict fsort_mem strict_ext ordF ordS hasE)

theorem check_same {x y:SubV} (h:SameS y x):K.SubV.check y=K.SubV.check x:=by
 obtain ⟨h1,h2,h3,h4,h5,h6⟩:=h
 unfold K.SubV.check K.SubV.nb K.SubV.mb
 rw [h1,h2,h3,h4,h5,h6]

def SubV.n (x:SubV):SubV:={ x with ra:=none,rc:=0,sa:=none,sc:=0,wa:=none,wc:=0 }
def RecV.n (r:RecV):RecV:={ r with s:=SubV.n r.s }
def CL.n (c:CL):CL:={ c with recs:=c.recs.map RecV.n,ra:=none,rc:=0,t1:=0,t2:=0,t3:=0,t4:=0 }
theorem same_n {x y:SubV} (h:SameS y x):SubV.n y=SubV.n x:=by
 obtain ⟨h1,h2,h3,h4,h5,h6⟩:=h
 unfold SubV.n
 rw [h1,h2,h3,h4,h5,h6]
theorem lookD_n (c:CL) (x:SubV):lookD (CL.n c) (SubV.n x)=lookD c x:=by
 unfold lookD recsL CL.n
 simp only
 rw [List.foldl_map]
 rfl
theorem codeD_n (c:CL) (x:SubV) (k:Int):codeD (CL.n c) (SubV.n x) k=codeD c x k:=by
 unfold codeD
 rw [lookD_n]
 rfl
theorem sum_n (c:CL) (r:RecV):CL.n (c.sum r)=(CL.n c).sum (RecV.n r):=by
 have e:sumS (CL.n c) (RecV.n r)=sumS c r:=rfl
 unfold CL.sum
 simp only
 rw [e]
 by_cases h:(sumS c r).e=0
 ·rw [if_pos h,if_pos h];rfl
 ·rw [if_neg h,if_neg h];rfl
theorem drop_n (d:CL) (r:RecV):CL.n { (d.sum r) with recs:=d.recs.drop 1 } = { ((CL.n d).sum (RecV.n r)) with recs:=(CL.n d).recs.drop 1 }:=by
 have e:(CL.n d).recs.drop 1=(d.recs.drop 1).map RecV.n:=List.map_drop.symm
 rw [e,←sum_n]
 rfl
theorem head_n (L:List RecV) (d:RecV):(L.map RecV.n).headD (RecV.n d)=RecV.n (L.headD d):=by cases L <;> rfl
theorem commit_n (c:CL) (y:SubV) (out:Bool) (a:Option Addr) (k:Nat):CL.n { (c.commit y out) with ra:=a,rc:=k }=(CL.n c).commit (SubV.n y) out:=by
 have e0:(CL.n { c with count:=c.count+1,recs:=c.recs++[(⟨c.count+1,y,out⟩:RecV)] }) = { (CL.n c) with count:=c.count+1,recs:=(CL.n c).recs++[(⟨c.count+1,SubV.n y,out⟩:RecV)] }:=by
  unfold CL.n
  simp only [List.map_append,List.map_cons,List.map_nil]
  rfl
 have e1:∀ d:CL,CL.n { d with ra:=a,rc:=k }=CL.n d:=fun _=>rfl
 rw [e1]
 unfold CL.commit
 simp only
 have hl:((CL.n c).recs++[(⟨(CL.n c).count+1,SubV.n y,out⟩:RecV)]).length=(c.recs++[(⟨c.count+1,y,out⟩:RecV)]).length:=by simp [CL.n]
 by_cases hk:c.keep<((c.recs++[(⟨c.count+1,y,out⟩:RecV)]).length:Int)
 ·rw [if_pos hk,if_pos (by rw [hl];exact hk)]
  have h:=drop_n { c with count:=c.count+1,recs:=c.recs++[(⟨c.count+1,y,out⟩:RecV)] } ((c.recs++[(⟨c.count+1,y,out⟩:RecV)]).headD ⟨0,y,out⟩)
  rw [e0,←head_n] at h
  have e2:(c.recs++[(⟨c.count+1,y,out⟩:RecV)]).map RecV.n=(CL.n c).recs++[(⟨c.count+1,SubV.n y,out⟩:RecV)]:=congrArg CL.recs e0
  rw [e2] at h
  exact h
 ·rw [if_neg hk,if_neg (by rw [hl];exact hk)]
  exact e0

def newC (kp m:Int) (t1 t2 t3 t4:Nat):CL:=⟨kp,m,0,0,[],none,0,t1,t2,t3,t4,[],[],[],[]⟩
def NwR (B:Nat) (Y:World) (kp m:Int):List Value→World→Prop
 | [],X=>Below Y.heap.size Y X
 | [p1],X=>∃ t1:Nat,p1=.pointer (some ⟨t1,0,none⟩)∧TabAt X B t1 (.slice none 0 0) (mostI m) []∧Y.heap.size≤t1∧Below Y.heap.size Y X
 | [p1,p2],X=>∃ t1 t2:Nat,p1=.pointer (some ⟨t1,0,none⟩)∧p2=.pointer (some ⟨t2,0,none⟩)∧TabAt X B t1 (.slice none 0 0) (mostI m) []∧TabAt X B t2 (.slice none 0 0) (mostI m) []∧Y.heap.size≤t1∧t1<t2∧Below Y.heap.size Y X
 | [p1,p2,p3],X=>∃ t1 t2 t3:Nat,p1=.pointer (some ⟨t1,0,none⟩)∧p2=.pointer (some ⟨t2,0,none⟩)∧p3=.pointer (some ⟨t3,0,none⟩)∧TabAt X B t1 (.slice none 0 0) (mostI m) []∧TabAt X B t2 (.slice none 0 0) (mostI m) []∧TabAt X B t3 (.slice none 0 0) (mostI m) []∧Y.heap.size≤t1∧t1<t2∧t2<t3∧Below Y.heap.size Y X
 | [p1,p2,p3,p4],X=>∃ t1 t2 t3 t4:Nat,p1=.pointer (some ⟨t1,0,none⟩)∧p2=.pointer (some ⟨t2,0,none⟩)∧p3=.pointer (some ⟨t3,0,none⟩)∧p4=.pointer (some ⟨t4,0,none⟩)∧TabAt X B t1 (.slice none 0 0) (mostI m) []∧TabAt X B t2 (.slice none 0 0) (mostI m) []∧TabAt X B t3 (.slice none 0 0) (mostI m) []∧Q.TabAt X B t4 (.slice none 0 0) (mostI m) []∧Y.heap.size≤t1∧t1<t2∧t2<t3∧t3<t4∧Below Y.heap.size Y X
 | _ :: _ :: _ :: _ :: p5 :: _,X=>∃ t1 t2 t3 t4 T:Nat,p5=.pointer (some ⟨T,0,none⟩)∧TabAt X B t1 (.slice none 0 0) (mostI m) []∧TabAt X B t2 (.slice none 0 0) (mostI m) []∧TabAt X B t3 (.slice none 0 0) (mostI m) []∧Q.TabAt X B t4 (.slice none 0 0) (mostI m) []∧Y.heap.size≤t1∧t1<t2∧t2<t3∧t3<t4∧t4<T∧X.heap[T]? = some (.cells (newC kp m t1 t2 t3 t4).box 111 (0,0))∧Below Y.heap.size Y X
theorem NwR.b {B:Nat} {Y:World} {kp m:Int}:∀ {ms:List Value} {X:World},NwR B Y kp m ms X→Below Y.heap.size Y X
 | [],_,h=>h
 | [_],_,h=>by obtain ⟨_,_,_,_,hb⟩:=h;exact hb
 | [_,_],_,h=>by obtain ⟨_,_,_,_,_,_,_,_,hb⟩:=h;exact hb
 | [_,_,_],_,h=>by obtain ⟨_,_,_,_,_,_,_,_,_,_,_,_,hb⟩:=h;exact hb
 | [_,_,_,_],_,h=>by obtain ⟨_,_,_,_,_,_,_,_,_,_,_,_,_,_,_,_,hb⟩:=h;exact hb
 | _ :: _ :: _ :: _ :: _ :: _,_,h=>by obtain ⟨_,_,_,_,_,_,_,_,_,_,_,_,_,_,_,_,hb⟩:=h;exact hb
def NewCRet (kp m:Int) (w:World) (e:Ending) (w':World):Prop:=∃ (T t1 t2 t3 t4:Nat) (ow:Nat→Nat),e=.returned (.pointer (some ⟨T,0,none⟩))∧CAt w.heap.size T (newC kp m t1 t2 t3 t4) ow w'∧Below w.heap.size w w'
def owN (t1 t2 t3 t4 T:Nat) (k:Nat):Nat:=if k=t1 then 2 else if k=t2 then 3 else if k=t3 then 4 else if k=t4 then 5 else if k=T then 1 else 0
theorem new_at {B:Nat} {Y X:World} {kp m:Int} {p1 p2 p3 p4 p5:Value} {l:List Value} (h:NwR B Y kp m (p1 :: p2 :: p3 :: p4 :: p5 :: l) X) (hk:1≤kp∧kp≤32) (hB:B≤Y.heap.size):∃ (T t1 t2 t3 t4:Nat) (ow:Nat→Nat),p5=.pointer (some ⟨T,0,none⟩)∧CAt B T (newC kp m t1 t2 t3 t4) ow X∧Below Y.heap.size Y X:=by
 obtain ⟨t1,t2,t3,t4,T,e,a1,a2,a3,a4,l1,l2,l3,l4,l5,q,hb⟩:=h
 have s1:=a1.lt;have s2:=a2.lt;have s3:=a3.lt;have s4:=a4.lt
 have sT:=(Array.getElem?_eq_some_iff.1 q).1
 refine ⟨T,t1,t2,t3,t4,owN t1 t2 t3 t4 T,e,⟨q,?_,World.ownsRow_nil _ _ _ _,(fun _ h=>nomatch h),?_,?_,?_,?_,(fun _ h=>nomatch h),?_,⟨by simp [newC],by simp [newC],by simp [newC]⟩,(fun _ h=>nomatch h),⟨hk.1,hk.2,by simp [newC];omega⟩,(fun _ h=>nomatch h)⟩,hb⟩
 ·unfold owN
  rw [if_neg (by omega),if_neg (by omega),if_neg (by omega),if_neg (by omega),if_pos rfl]
 ·exact ⟨⟨_,a1,(show owN t1 t2 t3 t4 T t1=2 by unfold owN;rw [if_pos rfl]),fun _ h=>nomatch h⟩,List.Pairwise.nil,mostI_ge m,mostI_le m⟩
 ·exact ⟨⟨_,a2,by show owN t1 t2 t3 t4 T t2=3;unfold owN;rw [if_neg (by omega),if_pos rfl],fun _ h=>nomatch h⟩,List.Pairwise.nil,mostI_ge m,mostI_le m⟩
 ·exact ⟨⟨_,a3,by show owN t1 t2 t3 t4 T t3=4;unfold owN;rw [if_neg (by omega),if_neg (by omega),if_pos rfl],fun _ h=>nomatch h⟩,List.Pairwise.nil,mostI_ge m,mostI_le m⟩
 ·exact ⟨⟨_,a4,by show owN t1 t2 t3 t4 T t4=5;unfold owN;rw [if_neg (by omega),if_neg (by omega),if_neg (by omega),if_pos rfl],fun _ h=>nomatch h⟩,List.Pairwise.nil,mostI_ge m,mostI_le m⟩
 ·intro k hk
  unfold owN at hk
  by_cases e1:k=t1
  ·omega
  by_cases e2:k=t2
  ·omega
  by_cases e3:k=t3
  ·omega
  by_cases e4:k=t4
  ·omega
  by_cases e5:k=T
  ·omega
  rw [if_neg e1,if_neg e2,if_neg e3,if_neg e4,if_neg e5] at hk
  exact absurd rfl hk
set_option maxHeartbeats 4000000 in
set_option maxRecDepth 100000 in
theorem new_any (keep old:Int) (w:World) (h1:-9223372036854775808≤old∧old≤9223372036854775807) :
  Calls Tryz.prog 10 #[.agg #[.int .i64 keep,.int .i64 old]] w (NewCRet (min (max keep 1) 32) old w):=by
 go_enter Tryz.func10,Tryz.ntmps10
 go_upto_region 2 with fail
 generalize hkp:min (max keep 1) 32=kp
 have HKP:=hid (show 1≤kp∧kp≤32 by omega)
 have HKE:=hid hkp
 clear hkp
 generalize hW1:World.alloc _ _=w1
 have hA:Below w.heap.size w w1:=by rw [←hW1];exact below_auto
 have q0:w1.heap[w.heap.size]? = some (.cells #[.int .i64 kp,.int .i64 old] 26 (0,0)):=by rw [←hW1];exact heap_alloc_new w _
 clear hW1
 have hS:=(Array.getElem?_eq_some_iff.1 q0).1
 obtain ⟨Y0,hY0⟩:∃ Y:World,Y = { w1 with drawn:=w1.drawn+1 }:=⟨_,rfl⟩
 have hb0:Below w1.heap.size w1 Y0:=by rw [hY0];exact Below.drew (Below.refl _ _)
 have HY0:=hid hY0
 have HS:=hid fun X (hb:Below Y0.heap.size Y0 X)=>(show X.cell? ⟨w.heap.size,0,none⟩=some (.int .i64 kp)∧X.cell? ⟨w.heap.size,1,none⟩=some (.int .i64 old)∧w.heap.size<X.heap.size from by
  have hz:=hb0.size;have hz2:=hb.size
  have:=((hb.block _ (by omega)).trans (hb0.block _ hS)).trans q0
  exact ⟨cell_row this 0,cell_row this 1,by omega⟩)
 have HB0:=hid (show Below w.heap.size w Y0∧w.heap.size≤Y0.heap.size from ⟨hA.trans (hb0.mono (by omega)),by have:=hb0.size;omega⟩)
 have HO:=hid h1
 clear hY0 hb0 q0 hS hA h1
 refine wp_region_chainV [(0,fun _=>.agg #[.int .i64 kp,.int .i64 old]),(0,fun _=>.pointer (some ⟨w.heap.size,1,none⟩)),(0,fun _=>.int .i64 old),(1,fun ms=>ms.getD 0 undef),(0,fun _=>.pointer (some ⟨w.heap.size,1,none⟩)),(0,fun _=>.int .i64 old),(2,fun ms=>ms.getD 1 undef),(0,fun _=>.pointer (some ⟨w.heap.size,1,none⟩)),(0,fun _=>.int .i64 old),(3,fun ms=>ms.getD 2 undef),(0,fun _=>.pointer (some ⟨w.heap.size,1,none⟩)),(0,fun _=>.int .i64 old),(4,fun ms=>ms.getD 3 undef),(4,fun ms=>.agg #[.int .i64 kp,.int .i64 old,.int .i64 0,.int .i64 0,.slice none 0 0,ms.getD 0 undef,ms.getD 1 undef,ms.getD 2 undef,ms.getD 3 undef]),(5,fun ms=>ms.getD 4 undef),(5,fun ms=>ms.getD 4 undef)] (NwR w.heap.size Y0 kp old) (fun _ _=>False) [3,6,9,12,14] rfl (by kernel_rfl) (by kernel_rfl) (by kernel_rfl) (by decide) (by decide) (by show NwR w.heap.size Y0 kp old [] _;rw [←HY0.out];exact Below.refl _ _) ?_ ?_ ?_
 ·simp only [StepsV,List.nil_append,List.cons_append,Nat.zero_add,Nat.reduceAdd]
  refine ⟨?l0,?p1,?l2,?c1,?p4,?l5,?c2,?p7,?l8,?c3,?p10,?l11,?c4,?bd,?bx,?asg,trivial⟩
  case l0 =>
   intro ms X g1 g2 hx
   obtain ⟨k0,k1,kz⟩:=HS.out X (NwR.b hx)
   refine mM ?_
   generalize hR:(fun v w'=>(_→v=_)∧_)=RR
   have HR:=hid hR
   have HXX:=hid hx
   clear hR g1 g2 hx
   try refine mV ?_
   go_wp2_with fail
   have hR:=HR.out
   subst hR
   exact ⟨rfl,fun _=>rfl,HXX.out⟩
  case p1 =>
   intro ms X g1 g2 hx
   refine mM ?_
   generalize hR:(fun v w'=>(_→v=_)∧_)=RR
   have HR:=hid hR
   have HXX:=hid hx
   clear hR g1 g2 hx
   try refine mV ?_
   go_wp2_with fail
   have hR:=HR.out
   subst hR
   exact ⟨rfl,fun _=>rfl,HXX.out⟩
  case l2 =>
   intro ms X g1 g2 hx
   obtain ⟨k0,k1,kz⟩:=HS.out X (NwR.b hx)
   refine mM ?_
   generalize hR:(fun v w'=>(_→v=_)∧_)=RR
   have HR:=hid hR
   have HXX:=hid hx
   clear hR g1 g2 hx
   try refine mV ?_
   go_wp2_with fail
   have hR:=HR.out
   subst hR
   exact ⟨rfl,fun _=>rfl,HXX.out⟩
  case c1 =>
   intro ms X g1 g2 hx
   have hl:ms.length=0:=Nat.le_antisymm (Nat.le_trans g2 (by decide +kernel)) (Nat.le_trans (by decide +kernel) g1)
   obtain rfl:=P.ls0 hl
   have hb:Below Y0.heap.size Y0 X:=hx
   refine mM ?_
   generalize hR:(fun v w'=>(_→v=_)∧_)=RR
   have HR:=hid hR
   clear hR g1 g2 hl
   refine mV ?_
   have HC:=hid (tabNew_any w.heap.size old X (Nat.le_trans HB0.out.2 hb.size) HO.out.1 HO.out.2)
   go_wp2_with fail
   refine HC.out.mono ?_
   rintro e X2 ⟨rfl,ha,hb'⟩
   have HE:Hid (NwR w.heap.size Y0 kp old [.pointer (some ⟨X.heap.size,0,none⟩)] X2):=hid (⟨X.heap.size,rfl,ha,hb.size,hb.trans (hb'.mono hb.size)⟩)
   clear HC
   go_wp2_with fail
   have hR:=HR.out
   subst hR
   exact ⟨rfl,fun _=>rfl,HE.out⟩
  case p4 =>
   intro ms X g1 g2 hx
   refine mM ?_
   generalize hR:(fun v w'=>(_→v=_)∧_)=RR
   have HR:=hid hR
   have HXX:=hid hx
   clear hR g1 g2 hx
   try refine mV ?_
   go_wp2_with fail
   have hR:=HR.out
   subst hR
   exact ⟨rfl,fun _=>rfl,HXX.out⟩
  case l5 =>
   intro ms X g1 g2 hx
   obtain ⟨k0,k1,kz⟩:=HS.out X (NwR.b hx)
   refine mM ?_
   generalize hR:(fun v w'=>(_→v=_)∧_)=RR
   have HR:=hid hR
   have HXX:=hid hx
   clear hR g1 g2 hx
   try refine mV ?_
   go_wp2_with fail
   have hR:=HR.out
   subst hR
   exact ⟨rfl,fun _=>rfl,HXX.out⟩
  case c2 =>
   intro ms X g1 g2 hx
   have hl:ms.length=1:=Nat.le_antisymm (Nat.le_trans g2 (by decide +kernel)) (Nat.le_trans (by decide +kernel) g1)
   obtain ⟨v0,rfl⟩:=P.ls1 hl
   obtain ⟨t1,rfl,a1,l1,hb⟩:=hx
   refine mM ?_
   generalize hR:(fun v w'=>(_→v=_)∧_)=RR
   have HR:=hid hR
   clear hR g1 g2 hl
   refine mV ?_
   have HC:=hid (tabNew_any w.heap.size old X (Nat.le_trans HB0.out.2 hb.size) HO.out.1 HO.out.2)
   go_wp2_with fail
   refine HC.out.mono ?_
   rintro e X2 ⟨rfl,ha,hb'⟩
   have HE:Hid (NwR w.heap.size Y0 kp old [.pointer (some ⟨t1,0,none⟩),.pointer (some ⟨X.heap.size,0,none⟩)] X2):=hid (⟨t1,X.heap.size,rfl,rfl,a1.below hb',ha,l1,a1.lt,hb.trans (hb'.mono hb.size)⟩)
   clear HC
   go_wp2_with fail
   have hR:=HR.out
   subst hR
   exact ⟨rfl,fun _=>rfl,HE.out⟩
  case p7 =>
   intro ms X g1 g2 hx
   refine mM ?_
   generalize hR:(fun v w'=>(_→v=_)∧_)=RR
   have HR:=hid hR
   have HXX:=hid hx
   clear hR g1 g2 hx
   try refine mV ?_
   go_wp2_with fail
   have hR:=HR.out
   subst hR
   exact ⟨rfl,fun _=>rfl,HXX.out⟩
  case l8 =>
   intro ms X g1 g2 hx
   obtain ⟨k0,k1,kz⟩:=HS.out X (NwR.b hx)
   refine mM ?_
   generalize hR:(fun v w'=>(_→v=_)∧_)=RR
   have HR:=hid hR
   have HXX:=hid hx
   clear hR g1 g2 hx
   try refine mV ?_
   go_wp2_with fail
   have hR:=HR.out
   subst hR
   exact ⟨rfl,fun _=>rfl,HXX.out⟩
  case c3 =>
   intro ms X g1 g2 hx
   have hl:ms.length=2:=Nat.le_antisymm (Nat.le_trans g2 (by decide +kernel)) (Nat.le_trans (by decide +kernel) g1)
   obtain ⟨v0,v1,rfl⟩:=P.ls2 hl
   obtain ⟨t1,t2,rfl,rfl,a1,a2,l1,l2,hb⟩:=hx
   refine mM ?_
   generalize hR:(fun v w'=>(_→v=_)∧_)=RR
   have HR:=hid hR
   clear hR g1 g2 hl
   refine mV ?_
   have HC:=hid (tabNew_any w.heap.size old X (Nat.le_trans HB0.out.2 hb.size) HO.out.1 HO.out.2)
   go_wp2_with fail
   refine HC.out.mono ?_
   rintro e X2 ⟨rfl,ha,hb'⟩
   have HE:Hid (NwR w.heap.size Y0 kp old [.pointer (some ⟨t1,0,none⟩),.pointer (some ⟨t2,0,none⟩),.pointer (some ⟨X.heap.size,0,none⟩)] X2):=hid (⟨t1,t2,X.heap.size,rfl,rfl,rfl,a1.below hb',a2.below hb',ha,l1,l2,a2.lt,hb.trans (hb'.mono hb.size)⟩)
   clear HC
   go_wp2_with fail
   have hR:=HR.out
   subst hR
   exact ⟨rfl,fun _=>rfl,HE.out⟩
  case p10 =>
   intro ms X g1 g2 hx
   refine mM ?_
   generalize hR:(fun v w'=>(_→v=_)∧_)=RR
   have HR:=hid hR
   have HXX:=hid hx
   clear hR g1 g2 hx
   try refine mV ?_
   go_wp2_with fail
   have hR:=HR.out
   subst hR
   exact ⟨rfl,fun _=>rfl,HXX.out⟩
  case l11 =>
   intro ms X g1 g2 hx
   obtain ⟨k0,k1,kz⟩:=HS.out X (NwR.b hx)
   refine mM ?_
   generalize hR:(fun v w'=>(_→v=_)∧_)=RR
   have HR:=hid hR
   have HXX:=hid hx
   clear hR g1 g2 hx
   try refine mV ?_
   go_wp2_with fail
   have hR:=HR.out
   subst hR
   exact ⟨rfl,fun _=>rfl,HXX.out⟩
  case c4 =>
   intro ms X g1 g2 hx
   have hl:ms.length=3:=Nat.le_antisymm (Nat.le_trans g2 (by decide +kernel)) (Nat.le_trans (by decide +kernel) g1)
   obtain ⟨v0,v1,v2,rfl⟩:=P.ls3 hl
   obtain ⟨t1,t2,t3,rfl,rfl,rfl,a1,a2,a3,l1,l2,l3,hb⟩:=hx
   refine mM ?_
   generalize hR:(fun v w'=>(_→v=_)∧_)=RR
   have HR:=hid hR
   clear hR g1 g2 hl
   refine mV ?_
   have HC:=hid (Q.tabNew_any w.heap.size old X (Nat.le_trans HB0.out.2 hb.size) HO.out.1 HO.out.2)
   go_wp2_with fail
   refine HC.out.mono ?_
   rintro e X2 ⟨rfl,ha,hb'⟩
   have HE:Hid (NwR w.heap.size Y0 kp old [.pointer (some ⟨t1,0,none⟩),.pointer (some ⟨t2,0,none⟩),.pointer (some ⟨t3,0,none⟩),.pointer (some ⟨X.heap.size,0,none⟩)] X2):=hid (⟨t1,t2,t3,X.heap.size,rfl,rfl,rfl,rfl,a1.below hb',a2.below hb',a3.below hb',ha,l1,l2,l3,a3.lt,hb.trans (hb'.mono hb.size)⟩)
   clear HC
   go_wp2_with fail
   have hR:=HR.out
   subst hR
   exact ⟨rfl,fun _=>rfl,HE.out⟩
  case bd =>
   intro ms X g1 g2 hx
   have hl1:ms.length=4:=Nat.le_antisymm (Nat.le_trans g2 (by decide +kernel)) (Nat.le_trans (by decide +kernel) g1)
   obtain ⟨v0,v1,v2,v3,rfl⟩:=P.ls4 hl1
   have hx':=hx
   obtain ⟨t1,t2,t3,t4,e1,e2,e3,e4,a1,a2,a3,a4,l1,l2,l3,l4,hb⟩:=hx'
   subst e1 e2 e3 e4
   refine mM ?_
   generalize hR:(fun v w'=>(_→v=_)∧_)=RR
   have HR:=hid hR
   have HXX:=hid hx
   clear hR g1 g2 hx a1 a2 a3 a4 l1 l2 l3 l4 hb hl1
   try refine mV ?_
   go_wp2_with fail
   have hR:=HR.out
   subst hR
   exact ⟨rfl,fun _=>rfl,HXX.out⟩
  case bx =>
   intro ms X g1 g2 hx
   have hlk:ms.length=4:=Nat.le_antisymm (Nat.le_trans g2 (by decide +kernel)) (Nat.le_trans (by decide +kernel) g1)
   obtain ⟨v0,v1,v2,v3,rfl⟩:=P.ls4 hlk
   obtain ⟨t1,t2,t3,t4,rfl,rfl,rfl,rfl,a1,a2,a3,a4,l1,l2,l3,l4,hb⟩:=hx
   refine mM ?_
   generalize hR:(fun v w'=>(_→v=_)∧_)=RR
   have HR2:=hid hR
   clear hR g1 g2 hlk
   refine mV ?_
   have hbx:Below X.heap.size X (X.alloc (.cells (newC kp old t1 t2 t3 t4).box 111)):=by exact below_auto
   have HE:Hid (NwR w.heap.size Y0 kp old [.pointer (some ⟨t1,0,none⟩),.pointer (some ⟨t2,0,none⟩),.pointer (some ⟨t3,0,none⟩),.pointer (some ⟨t4,0,none⟩),.pointer (some ⟨X.heap.size,0,none⟩)] (X.alloc (.cells (newC kp old t1 t2 t3 t4).box 111))):=hid ⟨t1,t2,t3,t4,X.heap.size,rfl,a1.below hbx,a2.below hbx,a3.below hbx,a4.below hbx,l1,l2,l3,l4,a4.lt,heap_alloc_new X _,hb.trans (hbx.mono hb.size)⟩
   clear a1 a2 a3 a4 l1 l2 l3 l4 hb hbx
   go_wp2_with fail
   have hR:=HR2.out
   subst hR
   exact ⟨rfl,fun _=>rfl,HE.out⟩
  case asg =>
   intro ms X g1 g2 hx
   refine mM ?_
   generalize hR:(fun v w'=>(_→v=_)∧_)=RR
   have HR:=hid hR
   have HXX:=hid hx
   clear hR g1 g2 hx
   try refine mV ?_
   go_wp2_with fail
   have hR:=HR.out
   subst hR
   exact ⟨rfl,fun _=>rfl,HXX.out⟩
 ·intro ms X hl hx
  obtain ⟨v0,v1,v2,v3,v4,rfl⟩:=P.ls5 hl
  obtain ⟨T,t1,t2,t3,t4,ow,rfl,hC,hb⟩:=new_at hx HKP.out HB0.out.2
  refine mV ?_
  clear hl hx
  have HF:=hid (show NewCRet (min (max keep 1) 32) old w (.returned (.pointer (some ⟨T,0,none⟩))) X from by rw [HKE.out];exact ⟨T,t1,t2,t3,t4,ow,rfl,hC,HB0.out.1.trans (hb.mono HB0.out.2)⟩)
  clear hC hb
  go_wp2_with fail
  go_ret
  exact HF.out
 ·exact fun _ _ _ _ hx=>hx.elim
set_option maxRecDepth 100000 in
theorem count_any {B T:Nat} {c:CL} {ow:Nat→Nat} {w:World} (h:CAt B T c ow w):Calls Tryz.prog 16 #[.pointer (some ⟨T,0,none⟩)] w (Ret (.int .i64 c.count) w):=by
 obtain ⟨-,-,k2,-⟩:=row9 h.box
 have hT:=h.lt.2
 clear h
 go_enter Tryz.func16,Tryz.ntmps16
 go_wp2
 go_ret
 exact ⟨rfl,by exact below_auto⟩
set_option maxRecDepth 100000 in
theorem horizon_any {B T:Nat} {c:CL} {ow:Nat→Nat} {w:World} (h:CAt B T c ow w):Calls Tryz.prog 17 #[.pointer (some ⟨T,0,none⟩)] w (Ret (.int .i64 c.horizon) w):=by
 obtain ⟨-,-,-,k3,-⟩:=row9 h.box
 have hT:=h.lt.2
 clear h
 go_enter Tryz.func17,Tryz.ntmps17
 go_wp2
 go_ret
 exact ⟨rfl,by exact below_auto⟩

end Go.Proofs.YtdeeoddacnealaaGreat.C