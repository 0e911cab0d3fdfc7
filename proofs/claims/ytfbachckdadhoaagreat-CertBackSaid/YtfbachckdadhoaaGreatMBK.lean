/- Several texts as one: CBK CBW. -/
import Derived.Test.YtfbachckdadhoaaGreatQ0
import Derived.Test.YtfbachckdadhoaaGreatCAG
import Derived.Test.YtfbachckdadhoaaGreatMLD
namespace Go.Proofs.YtfbachckdadhoaaGreat.C
set_option linter.unusedVariables false
open Go.RowKit Fl
open Go.Proofs.YtfbachckdadhoaaGreat.P (bCells BAt BelowB)
set_option linter.unusedSimpArgs false

def stepC (c:CL) (x:SubV) (k:Int):CL:=if codeD c x k=0 then c.commit x (decide (0<(lookD c x).least)) else c
def numC (c:CL) (x:SubV) (k:Int):Int:=if codeD c x k=0 then c.count+1 else 0
structure BackS (c:CL) (ds:List RecV) (m:Nat) (F:List RecV):Prop where
 inv:Inv c ds m
 rts:Rights ds
 snp:∀ r∈ds,r.s.s2<r.num
 fold:Fold c F
def Back (c:CL):Prop:=∃ ds m F,BackS (CL.n c) ds m F
theorem Back.of {c d:CL} (h:Back c) (e:CL.n d=CL.n c):Back d:=by
 obtain ⟨ds,m,F,h⟩:=h
 exact ⟨ds,m,F,by rw [e];exact h⟩
theorem Back.new (kp m:Int) (hk:1≤kp) (t1 t2 t3 t4:Nat):Back (newC kp m t1 t2 t3 t4):=⟨[],0,[],Inv.new kp m hk t1 t2 t3 t4,Rights.nil,fun _ h=>(by cases h),Fold.new kp m t1 t2 t3 t4⟩
theorem code_snap {c:CL} {x:SubV} {k:Int} (h:codeD c x k=0):x.s2≤c.count:=by
 unfold codeD at h
 by_cases h1:k≠0
 ·rw [if_pos h1] at h;exact absurd h h1
 ·rw [if_neg h1] at h
  by_cases h2:c.count=1099511627776
  ·rw [if_pos h2] at h;cases h
  ·rw [if_neg h2] at h
   by_cases h3:c.count<x.s2
   ·rw [if_pos h3] at h;cases h
   ·omega
theorem n_keep {c d:CL} (h:CL.n d=CL.n c):d.keep=c.keep∧d.old=c.old∧d.count=c.count∧d.horizon=c.horizon :=
 ⟨(by have:=congrArg CL.keep h;exact this),(by have:=congrArg CL.old h;exact this),(by have:=congrArg CL.count h;exact this),(by have:=congrArg CL.horizon h;exact this)⟩
theorem dec_back {B T:Nat} {c:CL} {ow:Nat→Nat} {w:World} (h:CAt B T c ow w) (hB:Back c) {x:SubV} (hx:SubL (fun k=>ow k=0) x w) :
  Calls Tryz.prog 18 #[.pointer (some ⟨T,0,none⟩),.agg #[.int .i64 x.s0,.int .i64 x.s1,.int .i64 x.s2,.slice x.ra x.rs.length x.rc,.slice x.sa x.ss.length x.sc,.slice x.wa x.ws.length x.wc]] w fun e w'=>e=.returned (.agg #[.int .i64 (codeD (CL.n c) (SubV.n x) (K.SubV.check x)),.int .i64 (numC (CL.n c) (SubV.n x) (K.SubV.check x))])∧∃ (c':CL) (ow':Nat→Nat),CAt B T c' ow' w'∧Fr ow ow' w w'∧Back c'∧CL.n c'=stepC (CL.n c) (SubV.n x) (K.SubV.check x)∧c'.keep=c.keep∧c'.old=c.old:=by
 obtain ⟨ds,m,F,hI,hr,hs,hF⟩:=hB
 have hmk:(c.recs.length:Int)≤c.keep:=by have:=hI.few;simpa [CL.n] using this
 by_cases hcd:codeD (CL.n c) (SubV.n x) (K.SubV.check x)=0
 ·have hk0:=chk_of_code hcd
  refine (dec_ok h hmk ⟨rfl,rfl,rfl,rfl,rfl,rfl⟩ hx hk0 (by rw [hk0] at hcd;exact hcd) rfl).mono ?_
  rintro e w' ⟨rfl,c',ow',h1,h2,h3⟩
  obtain ⟨m',h4,h5,_,h6,h7,h8,h9⟩:=hI.commit (SubV.n x) (decide (0<(lookD (CL.n c) (SubV.n x)).least))
  obtain ⟨F',hF'⟩:=hF.commit hI (SubV.n x) (decide (0<(lookD (CL.n c) (SubV.n x)).least))
  have hsn:=code_snap hcd
  unfold stepC numC
  rw [if_pos hcd,if_pos hcd,hcd]
  rw [←h3] at h4 h8 h9 hF'
  refine ⟨rfl,c',ow',h1,h2,⟨_,m',F',h4,hr.snoc hk0,fun r hr'=>?_,hF'⟩,h3,h8,h9⟩
  rcases List.mem_append.1 hr' with hr'|hr'
  ·exact hs r hr'
  ·rw [List.mem_singleton.1 hr'];simp only;omega
 ·refine (dec_no h hmk (x:=x) ⟨rfl,rfl,rfl,rfl,rfl,rfl⟩ hx rfl hcd).mono ?_
  rintro e w' ⟨rfl,ow',h1,h2⟩
  unfold stepC numC
  rw [if_neg hcd,if_neg hcd]
  exact ⟨rfl,c,ow',h1,h2,⟨ds,m,F,hI,hr,hs,hF⟩,rfl,rfl,rfl⟩
theorem Back.bytes {B T:Nat} {c:CL} {ow:Nat→Nat} {w:World} (h:CAt B T c ow w) (hB:Back c):Calls Tryz.prog 27 #[.pointer (some ⟨T,0,none⟩)] w (BytesRet c w):=by
 obtain ⟨ds,m,F,hI,hr,hs,hF⟩:=hB
 exact Inv.bytes h hI hr
theorem bytes_same {c d:CL} (h:CL.n d=CL.n c):bytesC d=bytesC c:=by rw [←bytesC_n d,h,bytesC_n]
theorem Back.ldb {B T:Nat} {c:CL} {ow:Nat→Nat} {w:World} (h:CAt B T c ow w) (hB:Back c):Ldb c:=by
 obtain ⟨ds,m,F,hI,hr,hs,hF⟩:=hB
 have hlen:(CL.n c).recs.length=c.recs.length:=List.length_map _
 have hrec:c.recs.map RecV.n=ds.drop m:=hI.recs
 have hcnt:c.count=(ds.length:Int):=hI.count
 have hlm:(c.recs.length:Int)=c.count-m:=by rw [←hlen,hI.recs,List.length_drop,hcnt];have:=hI.le;omega
 have hfew:(c.recs.length:Int)≤c.keep:=by rw [←hlen];exact hI.few
 have hc:=h.cnt
 have hget:∀ i (hi:i<c.recs.length),∃ hj:m+i<ds.length,RecV.n (c.recs[i])=ds[m+i]:=fun i hi=>by
  have h1:(c.recs.map RecV.n)[i]? = some (RecV.n c.recs[i]):=by rw [List.getElem?_map,List.getElem?_eq_getElem hi];rfl
  rw [hrec,List.getElem?_drop] at h1
  obtain ⟨h2,h3⟩:=List.getElem?_eq_some_iff.1 h1
  exact ⟨h2,h3.symm⟩
 have hhi:c.recs≠[]→hiOf c.recs=c.count-c.recs.length+1:=fun hne=>by
  have h0:0<c.recs.length:=List.length_pos_iff.2 hne
  obtain ⟨h1,h2⟩:=hget 0 h0
  have h3:=hI.nums (m+0) h1
  rw [←h2] at h3
  have h4:hiOf c.recs=(c.recs[0]).num:=by
   unfold hiOf
   rw [List.head?_eq_getElem?,List.getElem?_eq_getElem h0];rfl
  rw [h4]
  have h5:(RecV.n c.recs[0]).num=(c.recs[0]).num:=rfl
  rw [h5] at h3
  rw [h3];omega
 have hhi0:hiOf c.recs≤1099511627776:=by
  by_cases hne:c.recs=[]
  ·rw [hne];decide
  ·have:=hhi hne
   have h0:0<c.recs.length:=List.length_pos_iff.2 hne
   omega
 have hold:∀ n,(∃ r∈F,r.num=n)→neOf c.recs=true∧c.horizon<n∧n<hiOf c.recs:=fun n ⟨r,h1,h2⟩=>by
  have h3:=hF.old r h1
  have h4:(CL.n c).recs≠[]:=hF.ne (List.ne_nil_of_mem h1)
  have h5:c.recs≠[]:=fun e=>h4 (by show c.recs.map RecV.n=[];rw [e];rfl)
  have h6:=hhi h5
  have h7:(CL.n c).horizon=c.horizon:=rfl
  have h8:(CL.n c).count=c.count:=rfl
  rw [hlen,h7,h8] at h3
  refine ⟨?_,by omega,by omega⟩
  unfold neOf
  cases hc:c.recs with
  | nil=>exact absurd hc h5
  | cons _ _=>rfl
 refine ⟨⟨hfew,h.kp.2.1⟩,hc,?_,fun i hi=>?_,?_,?_,?_,?_⟩
 ·have:=hI.hz
  rw [hlen] at this
  have h7:(CL.n c).horizon=c.horizon:=rfl
  have h8:(CL.n c).count=c.count:=rfl
  rw [h7,h8] at this;omega
 ·obtain ⟨hj,he⟩:=hget i hi
  have h1:=hI.nums (m+i) hj
  have h2:=hr _ (List.getElem_mem hj)
  have h3:=hs _ (List.getElem_mem hj)
  rw [←he] at h1 h2 h3
  exact ⟨(by have h5:(RecV.n c.recs[i]).num=(c.recs[i]).num:=rfl;rw [h5] at h1;rw [h1];omega),⟨w,(h.subs _ (List.getElem_mem hi)).at_⟩,h2,h3⟩
 ·exact ⟨h.k1.up,h.k1.le,(by have:=h.k1.le;have:=h.k1.m64;omega),fun x hx=>hold _ (by obtain ⟨r,h1,h2,_⟩:=hF.tabs.h1.fr x hx;exact ⟨r,h1,h2⟩),hc.1,hhi0⟩
 ·exact ⟨h.k2.up,h.k2.le,(by have:=h.k2.le;have:=h.k2.m64;omega),fun x hx=>hold _ (by obtain ⟨r,h1,h2,_⟩:=hF.tabs.h2.fr x hx;exact ⟨r,h1,h2⟩),hc.1,hhi0⟩
 ·exact ⟨h.k3.up,h.k3.le,(by have:=h.k3.le;have:=h.k3.m64;omega),fun x hx=>hold _ (by obtain ⟨r,h1,h2,_⟩:=hF.tabs.h3.fr x hx;exact ⟨r,h1,h2⟩),hc.1,hhi0⟩
 ·exact ⟨h.k4.up,h.k4.le,(by have:=h.k4.le;have:=h.k4.m64;omega),fun x hx=>hold _ (by obtain ⟨r,h1,h2,_⟩:=hF.tabs.h4.fr x hx;exact ⟨r,h1,h2⟩),hc.1,hhi0⟩
theorem own_belowB {w:World} {base n:Nat} {a:Option Addr} {c:Nat} {xs:List Nat} (hn:xs.length=n) (h:w.ownsRow base 5 1 (.slice a n c) n (bCells xs)) (hlt:∀ x∈xs,x<256):BelowB w.heap.size w a c xs:=by
 have h1:=own_bat2 hn h hlt
 refine ⟨h1.row,hlt,?_⟩
 rcases h.2 with ⟨h2,h3⟩|⟨g,cap,cur,h2,_,_,h3,h4,_⟩
 ·rw [hn,h3];exact Nat.zero_le _
 ·cases h2;rw [hn];exact h3
theorem CAt.beside {B T B2 T2:Nat} {c d:CL} {ow ow2 ow':Nat→Nat} {w w':World} (h:CAt B T c ow w) (h2:CAt B2 T2 d ow2 w) (hd:∀ k,ow k=0∨ow2 k=0) (f:Fr ow2 ow' w w'):CAt B T c ow w'∧∀ k,ow k=0∨ow' k=0:=by
 refine ⟨h.keep f.size fun k hk h0=>f.block k hk ((hd k).resolve_left h0),fun k=>?_⟩
 by_cases hk:k<w.heap.size
 ·rw [f.own k hk];exact hd k
 ·exact .inl (Classical.byContradiction fun h0=>hk (h.low k h0).2)
end Go.Proofs.YtfbachckdadhoaaGreat.C
namespace Go.Proofs.YtfbachckdadhoaaGreat.C
set_option linter.unusedVariables false
open Go.RowKit Fl
open Go.Proofs.YtfbachckdadhoaaGreat.P (bCells BAt BelowB)
set_option linter.unusedSimpArgs false

theorem bytesRet_same {c d:CL} (h:bytesC d=bytesC c) (w:World):BytesRet d w=BytesRet c w:=by
 unfold BytesRet
 rw [h]
structure Twin (w:World) (T B2 T2:Nat) (c d:CL) (o1 o2:Nat→Nat) (x:World):Prop where
 atc:CAt w.heap.size T c o1 x
 atd:CAt B2 T2 d o2 x
 b2:w.heap.size≤B2
 two:∀ k,o1 k=0∨o2 k=0
 back:Back c
 eq:CL.n d=CL.n c
 below:Below w.heap.size w x
section
variable {w x x' : World} {T B2 T2 : Nat} {c d : CL} {o1 o2 : Nat → Nat}
theorem Twin.step (h:Twin w T B2 T2 c d o1 o2 x) (hb:Below x.heap.size x x'):Twin w T B2 T2 c d o1 o2 x' :=
 ⟨h.atc.below hb,h.atd.below hb,h.b2,h.two,h.back,h.eq,h.below.trans (hb.mono h.below.size)⟩
theorem Twin.free (h:Twin w T B2 T2 c d o1 o2 x) {k:Nat} (hk:x.heap.size≤k):o1 k=0∧o2 k=0 :=
 ⟨Classical.byContradiction fun h0=>by have:=(h.atc.low k h0).2;omega,Classical.byContradiction fun h0=>by have:=(h.atd.low k h0).2;omega⟩
theorem Twin.touch (h:Twin w T B2 T2 c d o1 o2 x) {S:Nat} (hg:x.grownBy x' (some S)) (h1:o1 S=0∧o2 S=0) (hS:w.heap.size≤S):Twin w T B2 T2 c d o1 o2 x' :=
 ⟨h.atc.keep hg.size fun j hj h0=>hg.block _ hj (by intro e;have e':=Option.some.inj e;exact h0 (by rw [e'];exact h1.1)),h.atd.keep hg.size fun j hj h0=>hg.block _ hj (by intro e;have e':=Option.some.inj e;exact h0 (by rw [e'];exact h1.2)),h.b2,h.two,h.back,h.eq,h.below.trans (grown_below hg hS h.below.size)⟩
end
def TR (w:World) (T B2 T2:Nat) (c d:CL) (o1 o2:Nat→Nat) (y:SubV) (S:Nat) (Y0:World):Nat→World→Prop
 | 0,x=>x=Y0
 | 1,x=>∃ (c':CL) (o1':Nat→Nat),CAt w.heap.size T c' o1' x∧Fr o1 o1' Y0 x∧Back c'∧CL.n c'=stepC (CL.n c) (SubV.n y) (K.SubV.check y)
 | _,x=>∃ (c' d':CL) (o1' o2':Nat→Nat),Twin w T B2 T2 c' d' o1' o2' x
set_option maxHeartbeats 8000000 in
set_option maxRecDepth 100000 in
theorem certBack_walk (keep old:Int) (a:Option Addr) (cp:Nat) (xs:List SubV) (a2:Option Addr) (cp2:Nat) (ys:List SubV) (w:World) (_hk:-9223372036854775808≤keep∧keep≤9223372036854775807) (ho:-9223372036854775808≤old∧old≤9223372036854775807) (hx:SqAt w a xs) (hlen:xs.length≤4398046511104) (_hc:xs.length≤cp) (hy:SqAt w a2 ys) (hlen2:ys.length≤4398046511104) (_hc2:ys.length≤cp2) :
  Calls Tryz.prog 10 #[.int .i64 keep,.int .i64 old,.slice a xs.length cp,.slice a2 ys.length cp2] w (Ret (.bool true) w):=by
 have HX:=hid hx
 have HY:=hid hy
 obtain ⟨n,hn⟩:∃ n,n=xs.length:=⟨_,rfl⟩
 have HN:=hid hn
 obtain ⟨n2,hn2⟩:∃ n,n=ys.length:=⟨_,rfl⟩
 have HN2:=hid hn2
 rw [←hn] at hlen ⊢
 rw [←hn2] at hlen2 ⊢
 clear hx hn hy hn2
 have HNew:=hid (new_any keep old w ho)
 have HOL:=hid ho
 clear ho
 go_enter Tryz.func10,Tryz.ntmps10
 go_wp2_with fail
 refine HNew.out.mono ?_
 rintro e w1 ⟨T,p1,p2,p3,p4,ow,rfl,hC1,hb1⟩
 clear HNew
 go_wp2_with fail
 refine (alive11_any w1).mono ?_
 rintro e w2 ⟨rfl,hb2⟩
 have HC2:=hid (hC1.below hb2)
 have hb02:=hb1.trans (hb2.mono hb1.size)
 clear hC1 hb1 hb2
 have HI0:=hid (Back.new (min (max keep 1) 32) old (by omega) p1 p2 p3 p4)
 go_upto_region 5 with fail
 go_loopw [29] (fun t29 wr=>∃ (k:Nat) (cc:CL) (ow:Nat→Nat),t29=.int .i64 (k:Nat)∧k≤n∧Hid (cc.keep=min (max keep 1) 32∧cc.old=old)∧Hid (CAt w.heap.size T cc ow wr)∧Hid (Back cc)∧Below w.heap.size w wr) (fun t29 _=>n-(intOf t29).toNat)
 case atStart=>exact ⟨0,_,ow,rfl,Nat.zero_le _,hid ⟨rfl,rfl⟩,HC2,HI0,hb02⟩
 case round =>
  obtain ⟨k,cc,ow,rfl,hk,HKE,HC,HI,hbw⟩:=hrel
  clear HC2 HI0 hb02 w2
  by_cases hlt:k<n
  ·have hlt':(k:Int)<(n:Int):=by omega
   obtain ⟨g,o,rfl,hg,hxa,c0,c1,c2,c3,c4,c5⟩:=(HX.out.below hbw).get (k:=k) (by rw [←HN.out];exact hlt)
   have HA:=hid (HX.out.sub k (by rw [←HN.out];exact hlt))
   generalize xs[k]?.getD noSub=x at *
   clear hxa
   go_upto_region 7 with fail
   generalize hW3:World.alloc wr _=w3
   have hb3:Below wr.heap.size wr w3:=by rw [←hW3];exact below_auto
   have q0:w3.heap[wr.heap.size]? = some (.cells #[.int .i64 x.s0,.int .i64 x.s1,.int .i64 x.s2,.slice x.ra x.rs.length x.rc,.slice x.sa x.ss.length x.sc,.slice x.wa x.ws.length x.wc] 32 (0,0)):=by rw [←hW3];exact heap_alloc_new wr _
   obtain ⟨S,hS⟩:∃ S,S=wr.heap.size:=⟨_,rfl⟩
   have hC3:=HC.out.below hb3
   have hb03:=hbw.trans (hb3.mono hbw.size)
   rw [←hS] at q0 ⊢
   clear c0 c1 c2 c3 c4 c5 hW3 hb3 hS
   obtain ⟨b0,b1,b2,b3,b4,b5⟩:=row6 q0
   have hlS:S<w3.heap.size:=(Array.getElem?_eq_some_iff.1 q0).1
   obtain ⟨cnt,hcnt⟩:∃ v,v=cc.count:=⟨_,rfl⟩
   have hcb:0≤cnt∧cnt≤1099511627776:=by have:=HC.out.cnt;omega
   obtain ⟨y,hy⟩:∃ y,snapV x cnt=y:=⟨_,rfl⟩
   have HYA:=hid (show y.At w from by rw [←hy];exact snapV_at HA.out cnt)
   have HCt:=hid fun W (hb:Below w3.heap.size w3 W)=>(show Calls Tryz.prog 14 #[.pointer (some ⟨T,0,none⟩)] W (Ret (.int .i64 cnt) W) from by have:=count_any (hC3.below hb);rw [←hcnt] at this;exact this)
   have HSn:=hid fun W=>snap11_any x y cnt W hcb hy
   have HC3:=hid hC3
   clear hC3 hcnt hy
   (refine wp_region_ext_tail 5 (by kernel_rfl) (by kernel_rfl) (by kernel_rfl) ?_;simp only [List.take_succ_cons,List.take_zero,List.drop_succ_cons,List.drop_zero];(repeat (go_big_quiet_step (first|(go_at_call 14;with_reducible exact Calls.ext_of (HCt.out _ (Ext.b _)))|(go_at_call 13;with_reducible exact Calls.ext_of (HSn.out _)))));refine mX ?_;intro w4 hb4 hc4 hf4 hz4;intros)
   have hC4:=HC3.out.below hb4
   have hb04:=hb03.trans (hb4.mono hb03.size)
   have D1:=hid (dec_back hC4 HI.out (sub_old HYA.out hb04 hC4 (Nat.le_refl _)))
   have HC4:=hid hC4
   clear b0 b1 b2 b3 b4 b5 q0 hb4 hc4 hf4 hz4 HCt HSn HC3 hb03 hlS hC4
   go_wp2_with fail
   refine D1.out.mono ?_
   rintro e w5 ⟨rfl,c',ow',e1,e2,e3,e4,e5,e6⟩
   have HK2:=hid (show c'.keep=min (max keep 1) 32∧c'.old=old from ⟨e5.trans HKE.out.1,e6.trans HKE.out.2⟩)
   have HC5:=hid e1
   have HI5:=hid e3
   have hb05:=hb04.trans (HC4.out.fr_below e2)
   clear e1 e2 e3 e4 e5 e6 D1
   go_wp2_with fail
   go_roundw
   case rel=>exact ⟨k+1,c',ow',by go_num,by omega,HK2,HC5,HI5,hb05⟩
   case measure=>simp [intOf];omega
  ·obtain rfl:k=n:=by omega
   have hge:¬(k:Int)<(k:Int):=by omega
   go_upto_region 9 with fail
   go_wp2_with fail
   refine (Back.bytes HC.out HI.out).mono ?_
   rintro e w8 ⟨a8,k8,rfl,hown8,hb8⟩
   have HC8:=hid (HC.out.below hb8)
   have HB8:=hid (hbw.trans (hb8.mono hbw.size))
   have HO8:=hid hown8
   have HLD:=hid (show Calls Tryz.prog 29 #[.agg #[.int .i64 keep,.int .i64 old],.slice a8 (bytesC cc).length k8] w8 (LoadRet (some (CL.n cc)) w8) from by
    have h1:=load_any keep old a8 k8 (bytesC cc) w8 HOL.out (own_belowB rfl hown8 (bytesC_lt cc))
    have h2:=ldAll_fwd (HI.out.ldb HC.out)
    rw [HKE.out.1,HKE.out.2] at h2
    rw [h2] at h1
    exact h1)
   obtain ⟨ln,hln⟩:∃ l,l=(bytesC cc).length:=⟨_,rfl⟩
   have HLN:=hid hln
   rw [←hln] at HLD HO8 ⊢
   clear hown8 hb8 hln HC hbw
   go_upto_region 10 with fail
   go_wp2_with fail
   refine HLD.out.mono ?_
   rintro e w9 ⟨B2,T2,d,ow2,rfl,hB2,hd,hb9,hnd⟩
   have HTW:=hid (show Twin w T B2 T2 cc d ow ow2 w9 from ⟨HC8.out.below hb9,hd,Nat.le_trans HB8.out.size hB2,fun j=>(by
    by_cases h1:ow j=0
    ·exact .inl h1
    ·refine .inr (Classical.byContradiction fun h2=>?_)
     have:=(HC8.out.low j h1).2
     have:=(hd.low j h2).1
     omega),HI.out,hnd,HB8.out.trans (hb9.mono HB8.out.size)⟩)
   have HO9:=hid (HO8.out.kept (K.grown_of_below hb9) (by cases (Value.slice a8 ln k8).ownBlock <;> simp))
   clear hb9 hB2 hd hnd HLD HC8 HB8 HO8
   have HBy:=hid fun W (hb:Below w9.heap.size w9 W)=>(show Calls Tryz.prog 27 #[.pointer (some ⟨T2,0,none⟩)] W (BytesRet cc W) from by
    rw [←bytesRet_same (bytes_same HTW.out.eq)]
    exact Back.bytes (HTW.out.atd.below hb) (HI.out.of HTW.out.eq))
   have HSB:=hid fun (W:World) (hb:Below w9.heap.size w9 W) (a3:Option Addr) (k3:Nat) (base:Nat) (ho:W.ownsRow base 5 1 (.slice a3 (bytesC cc).length k3) (bytesC cc).length (bCells (bytesC cc)))=>(show Calls Tryz.prog 26 #[.slice a8 ln k8,.slice a3 ln k3] W (Ret (.bool true) W) from by
    have hrow:=HO9.out.kept (K.grown_of_below hb) (by cases (Value.slice a8 ln k8).ownBlock <;> simp)
    rw [HLN.out] at hrow ⊢
    exact P.sameB_any a8 a3 k8 k3 _ _ (bytesC cc) (bytesC cc) true W rfl rfl (own_bat2 rfl hrow (bytesC_lt cc)) (own_bat2 rfl ho (bytesC_lt cc)) (decide_eq_true rfl))
   go_upto_region 13 with (first|(go_at_call 27;(with_reducible refine (HBy.out _ (by exact below_auto)).mono ?_);rintro e w15 ⟨a15,k15,rfl,ho15,hb15⟩;rw [←HLN.out];refine mB hb15 ?_;intro hc15 hf15 hz15;intros)|(go_at_call 26;(with_reducible refine (HSB.out w15 hb15 a15 k15 _ ho15).mono ?_);rintro e w16 ⟨rfl,hb16⟩;refine mB hb16 ?_;intro hc16 hf16 hz16;intros))
   have hbX:Below w9.heap.size w9 w16:=by exact below_auto
   have TW:=hid (HTW.out.step hbX)
   clear hc15 hf15 hz15 hc16 hf16 hz16 hb15 hb16 ho15 hbX HBy HSB HTW HO9 HKE HI HN
   go_upto_region 14 with fail
   go_loopw [65] (fun t65 wr=>∃ (k:Nat) (cc d:CL) (o1 o2:Nat→Nat),t65=.int .i64 (k:Nat)∧k≤n2∧Hid (Twin w T B2 T2 cc d o1 o2 wr)) (fun t65 _=>n2-(intOf t65).toNat)
   case atStart=>exact ⟨0,_,_,_,_,rfl,Nat.zero_le _,TW⟩
   case round =>
    obtain ⟨k,cc,d,o1,o2,rfl,hk,TW'⟩:=hrel
    clear TW
    have TW:=TW'
    clear TW'
    have hbw:=TW.out.below
    by_cases hlt:k<n2
    ·have hlt':(k:Int)<(n2:Int):=by omega
     obtain ⟨g,o,rfl,hg,hxa,c0,c1,c2,c3,c4,c5⟩:=(HY.out.below hbw).get (k:=k) (by rw [←HN2.out];exact hlt)
     have HA:=hid (HY.out.sub k (by rw [←HN2.out];exact hlt))
     generalize ys[k]?.getD noSub=x at *
     clear hxa
     go_upto_region 16 with fail
     generalize hW3:World.alloc wr _=w3
     have hb3:Below wr.heap.size wr w3:=by rw [←hW3];exact below_auto
     have q0:w3.heap[wr.heap.size]? = some (.cells #[.int .i64 x.s0,.int .i64 x.s1,.int .i64 x.s2,.slice x.ra x.rs.length x.rc,.slice x.sa x.ss.length x.sc,.slice x.wa x.ws.length x.wc] 32 (0,0)):=by rw [←hW3];exact heap_alloc_new wr _
     obtain ⟨S,hS⟩:∃ S,S=wr.heap.size:=⟨_,rfl⟩
     have zS:=TW.out.free (k:=S) (by omega)
     have hwS:w.heap.size≤S:=by rw [hS];exact hbw.size
     have TW3:=hid (TW.out.step hb3)
     rw [←hS] at q0 ⊢
     clear c0 c1 c2 c3 c4 c5 hW3 hb3 hS hbw TW
     obtain ⟨b0,b1,b2,b3,b4,b5⟩:=row6 q0
     have f0:∀ i,w3.frozen? ⟨S,i,none⟩=false:=fun i=>by simp [World.frozen?,q0]
     have hlS:S<w3.heap.size:=(Array.getElem?_eq_some_iff.1 q0).1
     obtain ⟨cnt,hcnt⟩:∃ v,v=cc.count:=⟨_,rfl⟩
     have hcb:0≤cnt∧cnt≤1099511627776:=by have:=TW3.out.atc.cnt;omega
     obtain ⟨y,hy⟩:∃ y,snapV x cnt=y:=⟨_,rfl⟩
     have HYA:=hid (show y.At w from by rw [←hy];exact snapV_at HA.out cnt)
     have HCt:=hid fun W (hb:Below w3.heap.size w3 W)=>(show Calls Tryz.prog 14 #[.pointer (some ⟨T,0,none⟩)] W (Ret (.int .i64 cnt) W) from by have:=count_any (TW3.out.atc.below hb);rw [←hcnt] at this;exact this)
     have HSn:=hid fun W=>snap11_any x y cnt W hcb hy
     clear hcnt hy
     (refine wp_region_ext_tail 4 (by kernel_rfl) (by kernel_rfl) (by kernel_rfl) ?_;simp only [List.take_succ_cons,List.take_zero,List.drop_succ_cons,List.drop_zero];(repeat (go_big_quiet_step (first|(go_at_call 14;with_reducible exact Calls.ext_of (HCt.out _ (Ext.b _)))|(go_at_call 13;with_reducible exact Calls.ext_of (HSn.out _)))));refine mX ?_;intro w4 hb4 hc4 hf4 hz4;intros)
     have r0:=(hb4.block _ hlS).trans q0
     have TW4:=hid (TW3.out.step hb4)
     clear b0 b1 b2 b3 b4 b5 f0 q0 hb4 hc4 hf4 hz4 HCt HSn TW3 hlS
     have f0:∀ i,w4.frozen? ⟨S,i,none⟩=false:=fun i=>by simp [World.frozen?,r0]
     obtain ⟨b0,b1,b2,b3,b4,b5⟩:=row6 r0
     go_upto_region 17 with fail
     obtain ⟨r1,g1⟩:=set6 r0 (.int .i64 y.s0) (.int .i64 y.s1) (.int .i64 y.s2) (.slice y.ra y.rs.length y.rc) (.slice y.sa y.ss.length y.sc) (.slice y.wa y.ws.length y.wc)
     have TW5:=hid (TW4.out.touch g1 zS hwS)
     generalize ((((((w4.setCell ⟨S,0,none⟩ (.int .i64 y.s0)).setCell ⟨S,1,none⟩ (.int .i64 y.s1)).setCell ⟨S,2,none⟩ (.int .i64 y.s2)).setCell ⟨S,3,none⟩ (.slice y.ra y.rs.length y.rc)).setCell ⟨S,4,none⟩ (.slice y.sa y.ss.length y.sc)).setCell ⟨S,5,none⟩ (.slice y.wa y.ws.length y.wc))=w5 at *
     clear g1 r0 b0 b1 b2 b3 b4 b5 f0 TW4 hwS
     obtain ⟨Y0,hY0⟩:∃ Y:World,Y = { w5 with drawn:=w5.drawn+1 }:=⟨_,rfl⟩
     have hb0:Below w5.heap.size w5 Y0:=by rw [hY0];exact Below.drew (Below.refl _ _)
     have TY:=hid (TW5.out.step hb0)
     have HSY:=hid ((hb0.block S (Array.getElem?_eq_some_iff.1 r1).1).trans r1)
     have HY0:=hid hY0
     have HZS:=hid zS
     obtain ⟨cd,hcd⟩:∃ v,v=codeD (CL.n cc) (SubV.n y) (K.SubV.check y):=⟨_,rfl⟩
     obtain ⟨nm,hnm⟩:∃ v,v=numC (CL.n cc) (SubV.n y) (K.SubV.check y):=⟨_,rfl⟩
     have D1:=hid (show Calls Tryz.prog 18 #[.pointer (some ⟨T,0,none⟩),.agg #[.int .i64 y.s0,.int .i64 y.s1,.int .i64 y.s2,.slice y.ra y.rs.length y.rc,.slice y.sa y.ss.length y.sc,.slice y.wa y.ws.length y.wc]] Y0 fun e w'=>e=.returned (.agg #[.int .i64 cd,.int .i64 nm])∧TR w T B2 T2 cc d o1 o2 y S Y0 1 w' from by
      refine (dec_back TY.out.atc TY.out.back (sub_old HYA.out TY.out.below TY.out.atc (Nat.le_refl _))).mono ?_
      rintro e w' ⟨rfl,c',ow',e1,e2,e3,e4,e5,e6⟩
      rw [hcd,hnm]
      exact ⟨rfl,c',ow',e1,e2,e3,e4⟩)
     have D2:=hid fun (x:World) (hx:TR w T B2 T2 cc d o1 o2 y S Y0 1 x)=>(show Calls Tryz.prog 18 #[.pointer (some ⟨T2,0,none⟩),.agg #[.int .i64 y.s0,.int .i64 y.s1,.int .i64 y.s2,.slice y.ra y.rs.length y.rc,.slice y.sa y.ss.length y.sc,.slice y.wa y.ws.length y.wc]] x fun e w'=>e=.returned (.agg #[.int .i64 cd,.int .i64 nm])∧TR w T B2 T2 cc d o1 o2 y S Y0 2 w' from by
      obtain ⟨c',ow',e1,e2,e3,e4⟩:=hx
      obtain ⟨hd,htwo⟩:=TY.out.atd.beside TY.out.atc (fun k=>(TY.out.two k).symm) e2
      have hbx:=TY.out.below.trans (TY.out.atc.fr_below e2)
      refine (dec_back hd (TY.out.back.of TY.out.eq) (sub_old HYA.out hbx hd TY.out.b2)).mono ?_
      rintro e w' ⟨rfl,d',od',g1,g2,g3,g4,g5,g6⟩
      rw [TY.out.eq] at g4
      obtain ⟨k1,k2⟩:=e1.beside hd (fun k=>(htwo k).symm) g2
      refine ⟨by rw [hcd,hnm,TY.out.eq],c',d',ow',od',k1,g1,TY.out.b2,k2,e3,g4.trans e4.symm,hbx.trans ((hd.fr_below g2).mono TY.out.b2)⟩)
     clear hb0 hY0 r1 TW5 zS hcd hnm
     refine wp_region_chain (fun i=>[Value.pointer (some ⟨T,0,none⟩),.agg #[.int .i64 y.s0,.int .i64 y.s1,.int .i64 y.s2,.slice y.ra y.rs.length y.rc,.slice y.sa y.ss.length y.sc,.slice y.wa y.ws.length y.wc],.agg #[.int .i64 cd,.int .i64 nm],.pointer (some ⟨T2,0,none⟩),.agg #[.int .i64 y.s0,.int .i64 y.s1,.int .i64 y.s2,.slice y.ra y.rs.length y.rc,.slice y.sa y.ss.length y.sc,.slice y.wa y.ws.length y.wc],.agg #[.int .i64 cd,.int .i64 nm],.bool false].getD i undef) (TR w T B2 T2 cc d o1 o2 y S Y0) (fun c x=>False) [2,5] rfl (by kernel_rfl) (by kernel_rfl) (by decide) (by decide) HY0.out.symm ?_ ?_ ?_
     ·simp only [StepsC,List.nil_append,List.cons_append]
      refine ⟨?_,?l1,?c2,?_,?l4,?c5,?_,trivial⟩
      case l1 =>
       intro jj x g1 g2 hx
       obtain rfl:jj=0:=Nat.le_zero.1 (Nat.le_trans g2 (by decide +kernel))
       obtain rfl:x=Y0:=hx
       obtain ⟨b0,b1,b2,b3,b4,b5⟩:=row6 HSY.out
       generalize hR:(fun v w'=>(_→v=_)∧_)=RR
       have HR:=hid hR
       clear hR g1 g2
       try simp only [putsFrom,Act.put,qA,qB,qC,Nat.zero_add,Nat.reduceAdd,List.getD_cons_zero,List.getD_cons_succ]
       go_wp2_with fail
       have hR:=HR.out
       subst hR
       exact ⟨rfl,fun _=>rfl,rfl⟩
      case c2 =>
       intro jj x g1 g2 hx
       obtain rfl:jj=0:=Nat.le_zero.1 (Nat.le_trans g2 (by decide +kernel))
       obtain rfl:x=Y0:=hx
       generalize hR:(fun v w'=>(_→v=_)∧_)=RR
       have HR:=hid hR
       clear hR g1 g2
       try simp only [putsFrom,Act.put,qA,qB,qC,Nat.zero_add,Nat.reduceAdd,List.getD_cons_zero,List.getD_cons_succ]
       go_wp2_with fail
       refine D1.out.mono ?_
       rintro e w9 ⟨rfl,h9⟩
       have HE:=hid h9
       clear h9
       go_wp2_with fail
       have hR:=HR.out
       subst hR
       exact ⟨rfl,fun _=>rfl,HE.out⟩
      case l4 =>
       intro jj x g1 g2 hx
       have hj:jj≤1:=Nat.le_trans g2 (by decide +kernel)
       have hq:x.heap[S]? = some (.cells #[.int .i64 y.s0,.int .i64 y.s1,.int .i64 y.s2,.slice y.ra y.rs.length y.rc,.slice y.sa y.ss.length y.sc,.slice y.wa y.ws.length y.wc] 32 (0,0)):=by
        have hj':jj=0∨jj=1:=by omega
        rcases hj' with rfl|rfl
        ·rw [show x=Y0 from hx];exact HSY.out
        ·obtain ⟨c',ow',e1,e2,e3,e4⟩:=hx
         exact (e2.block S (Array.getElem?_eq_some_iff.1 HSY.out).1 HZS.out.1).trans HSY.out
       obtain ⟨b0,b1,b2,b3,b4,b5⟩:=row6 hq
       clear hq hj
       generalize hR:(fun v w'=>(_→v=_)∧_)=RR
       have HR:=hid hR
       have HXX:=hid hx
       clear hR g1 g2 hx
       try simp only [putsFrom,Act.put,qA,qB,qC,Nat.zero_add,Nat.reduceAdd,List.getD_cons_zero,List.getD_cons_succ]
       go_wp2_with fail
       have hR:=HR.out
       subst hR
       exact ⟨rfl,fun _=>rfl,HXX.out⟩
      case c5 =>
       intro jj x g1 g2 hx
       obtain rfl:jj=1:=Nat.le_antisymm (Nat.le_trans g2 (by decide +kernel)) (Nat.le_trans (by decide +kernel) g1)
       have HC2:=hid (D2.out x hx)
       generalize hR:(fun v w'=>(_→v=_)∧_)=RR
       have HR:=hid hR
       clear hR g1 g2 hx
       try simp only [putsFrom,Act.put,qA,qB,qC,Nat.zero_add,Nat.reduceAdd,List.getD_cons_zero,List.getD_cons_succ]
       go_wp2_with fail
       refine HC2.out.mono ?_
       rintro e w9 ⟨rfl,h9⟩
       have HE:=hid h9
       clear h9
       go_wp2_with fail
       have hR:=HR.out
       subst hR
       exact ⟨rfl,fun _=>rfl,HE.out⟩
      all_goals
       intro jj x g1 g2 hx
       generalize hR:(fun v w'=>(_→v=_)∧_)=RR
       have HR:=hid hR
       have HXX:=hid hx
       clear hR g1 g2 hx
       try simp only [putsFrom,Act.put,qA,qB,qC,Nat.zero_add,Nat.reduceAdd,List.getD_cons_zero,List.getD_cons_succ]
       go_wp2_with fail
       have hR:=HR.out
       subst hR
       exact ⟨rfl,fun _=>rfl,HXX.out⟩
     ·intro x hx
      obtain ⟨c',d',o1',o2',ht⟩:=hx
      have HT:=hid ht
      clear ht
      simp only [putsFrom,Act.put,qA,qB,qC,Nat.zero_add,Nat.reduceAdd,List.getD_cons_zero,List.getD_cons_succ]
      go_wp2_with fail
      go_roundw
      case rel=>exact ⟨k+1,c',d',o1',o2',by go_num,by omega,HT⟩
      case measure=>simp [intOf];omega
     ·exact fun _ _ _ _ h=>h.elim
    ·obtain rfl:k=n2:=by omega
     have hge:¬(k:Int)<(k:Int):=by omega
     have HBy1:=hid fun W (hb:Below wr.heap.size wr W)=>(show Calls Tryz.prog 27 #[.pointer (some ⟨T,0,none⟩)] W (BytesRet cc W) from Back.bytes (TW.out.atc.below hb) TW.out.back)
     have HBy2:=hid fun W (hb:Below wr.heap.size wr W)=>(show Calls Tryz.prog 27 #[.pointer (some ⟨T2,0,none⟩)] W (BytesRet cc W) from by
      rw [←bytesRet_same (bytes_same TW.out.eq)]
      exact Back.bytes (TW.out.atd.below hb) (TW.out.back.of TW.out.eq))
     have HSB:=hid fun (W:World) (ln:Nat) (hln:ln=(bytesC cc).length) (a3:Option Addr) (k3:Nat) (base:Nat) (ho:W.ownsRow base 5 1 (.slice a3 ln k3) ln (bCells (bytesC cc))) (a4:Option Addr) (k4:Nat) (base4:Nat) (W0:World) (hb:Below W0.heap.size W0 W) (ho4:W0.ownsRow base4 5 1 (.slice a4 ln k4) ln (bCells (bytesC cc)))=>(show Calls Tryz.prog 26 #[.slice a4 ln k4,.slice a3 ln k3] W (Ret (.bool true) W) from by
      have hrow:=ho4.kept (K.grown_of_below hb) (by cases (Value.slice a4 ln k4).ownBlock <;> simp)
      exact P.sameB_any a4 a3 k4 k3 _ _ (bytesC cc) (bytesC cc) true W hln.symm hln.symm (own_bat2 hln.symm hrow (bytesC_lt cc)) (own_bat2 hln.symm ho (bytesC_lt cc)) (decide_eq_true rfl))
     obtain ⟨ln2,hln2⟩:∃ l,l=(bytesC cc).length:=⟨_,rfl⟩
     obtain ⟨hz,hhz⟩:∃ v,v=cc.horizon:=⟨_,rfl⟩
     have HH1:=hid fun W (hb:Below wr.heap.size wr W)=>(show Calls Tryz.prog 16 #[.pointer (some ⟨T,0,none⟩)] W (Ret (.int .i64 hz) W) from by have:=horizon_any (TW.out.atc.below hb);rw [←hhz] at this;exact this)
     have HH2:=hid fun W (hb:Below wr.heap.size wr W)=>(show Calls Tryz.prog 16 #[.pointer (some ⟨T2,0,none⟩)] W (Ret (.int .i64 hz) W) from by have:=horizon_any (TW.out.atd.below hb);rw [(n_keep TW.out.eq).2.2.2,←hhz] at this;exact this)
     have HLN2:=hid hln2
     clear hhz hln2
     go_wp2_with (first|(go_at_call 27;(with_reducible refine (HBy1.out _ (by exact below_auto)).mono ?_);rintro e w25 ⟨a25,k25,rfl,ho25,hb25⟩;rw [←HLN2.out] at ho25 ⊢;refine mB hb25 ?_;intro hc25 hf25 hz25;intros)|(go_at_call 27;(with_reducible refine (HBy2.out _ (by exact below_auto)).mono ?_);rintro e w26 ⟨a26,k26,rfl,ho26,hb26⟩;rw [←HLN2.out] at ho26 ⊢;refine mB hb26 ?_;intro hc26 hf26 hz26;intros)|(go_at_call 26;(with_reducible refine (HSB.out w26 ln2 HLN2.out a26 k26 _ ho26 a25 k25 _ w25 hb26 ho25).mono ?_);rintro e w27 ⟨rfl,hb27⟩;refine mB hb27 ?_;intro hc27 hf27 hz27;intros)|(go_at_call 16;(with_reducible refine (HH1.out _ (by exact below_auto)).mono ?_);rintro e w28 ⟨rfl,hb28⟩;refine mB hb28 ?_;intro hc28 hf28 hz28;intros)|(go_at_call 16;(with_reducible refine (HH2.out _ (by exact below_auto)).mono ?_);rintro e w29 ⟨rfl,hb29⟩;refine mB hb29 ?_;intro hc29 hf29 hz29;intros))
     go_ret
     exact ⟨rfl,TW.out.below.trans (Below.mono (by exact below_auto) TW.out.below.size)⟩
end Go.Proofs.YtfbachckdadhoaaGreat.C
