/- Several texts as one: ZA ZB ZC. -/
import Derived.Test.YtdeeoddacnealaaGreatQ0
import Derived.Test.YtdeeoddacnealaaGreatMYS
import Derived.Test.YtdeeoddacnealaaGreatMBK
import Derived.Test.YtdeeoddacnealaaGreatMPE
import Derived.Test.YtdeeoddacnealaaGreatMCR
import Derived.Test.YtdeeoddacnealaaGreatMPD
import Derived.Test.YtdeeoddacnealaaGreatMCQ
import Derived.Test.YtdeeoddacnealaaGreatMCE
import Derived.Test.YtdeeoddacnealaaGreatMNL
set_option linter.unusedVariables false
set_option linter.unusedSimpArgs false
namespace Go.Proofs.YtdeeoddacnealaaGreat.M
open Go.RowKit Fl
open Go.Proofs.YtdeeoddacnealaaGreat.Z
open Go.Proofs.YtdeeoddacnealaaGreat.C (CL SubV.n stepC numC codeD)
open Go.Proofs.YtdeeoddacnealaaGreat.P (dec ofD)

structure MD where
 c:CL
 t:List SD
 ix:Int
structure AD where
 s0:Int
 s1:Int
 code:Int
 num:Int
 fresh:Bool
def aZero:AD:=⟨0,0,0,0,false⟩
def applyS (m:MD) (ix:Int) (d:P.Dt):MD×AD×Int :=
 if (lookT m.t d.1 d.2.1).1=5 then (⟨m.c,m.t,ix⟩,⟨d.1,d.2.1,(lookT m.t d.1 d.2.1).2.1,(lookT m.t d.1 d.2.1).2.2,false⟩,0)
 else if (lookT m.t d.1 d.2.1).1=0 then (⟨stepC m.c (ofD d) 0,putR m.t d.1 ⟨d.2.1,codeD m.c (ofD d) 0,numC m.c (ofD d) 0⟩,ix⟩,⟨d.1,d.2.1,codeD m.c (ofD d) 0,numC m.c (ofD d) 0,true⟩,0)
 else (⟨m.c,m.t,ix⟩,⟨d.1,d.2.1,(lookT m.t d.1 d.2.1).1,0,false⟩,0)
def applyB (m:MD) (ix:Int) (bs:List Nat):MD×AD×Int:=match dec bs with
 | none=>(⟨m.c,m.t,ix⟩,aZero,0)
 | some d=>applyS m ix d
def applyD (m:MD) (ix kind:Int) (bs:List Nat):MD×AD×Int :=
 if ix≠m.ix+1 then (m,aZero,60) else if kind≠1 then (⟨m.c,m.t,ix⟩,aZero,0) else applyB m ix bs
open Go.RowKit Fl Go.Maps
open Go.Proofs.YtdeeoddacnealaaGreat.C (CL CAt Fr Back newC new_any count_any horizon_any row_kept)

structure MS where
 c:CL
 os:List SL
 mb:Nat
 tc:Nat
 ts:Nat
 o1:Nat→Nat
 o2:Nat→Nat
 ix:Int
 bc:Nat
 bs:Nat
def MS.d (s:MS):MD:=⟨CL.n s.c,s.os.map SL.d,s.ix⟩
structure MAt (B T:Nat) (s:MS) (w:World):Prop where
 box:w.heap[T]? = some (.cells #[.pointer (some ⟨s.tc,0,none⟩),.pointer (some ⟨s.ts,0,none⟩),.int .i64 s.ix] 169 (0,0))
 cert:CAt s.bc s.tc s.c s.o1 w
 sess:Z.SAt s.bs s.ts s.mb s.os s.o2 w
 two:∀ k,s.o1 k=0∨s.o2 k=0
 own:s.o1 T=0∧s.o2 T=0
 lo:B≤T∧B≤s.bc∧B≤s.bs
 back:Back s.c
 inv:TInv (s.os.map SL.d)
def MS.own (s:MS) (T k:Nat):Prop:=s.o1 k≠0∨s.o2 k≠0∨k=T
structure FrM (P P':Nat→Prop) (w w':World):Prop where
 os:w'.os=w.os
 tape:w'.tape=w.tape
 output:w'.output=w.output
 size:w.heap.size≤w'.heap.size
 block:∀ k,k<w.heap.size→¬P k→w'.heap[k]? = w.heap[k]?
 own:∀ k,k<w.heap.size→(P' k↔P k)
theorem FrM.trans {P Q R:Nat→Prop} {a b c:World} (h:FrM P Q a b) (k:FrM Q R b c):FrM P R a c :=
 ⟨k.os.trans h.os,k.tape.trans h.tape,k.output.trans h.output,Nat.le_trans h.size k.size,fun i hi h0=>(k.block i (Nat.lt_of_lt_of_le hi h.size) fun h1=>h0 ((h.own i hi).1 h1)).trans (h.block i hi h0),fun i hi=>(k.own i (Nat.lt_of_lt_of_le hi h.size)).trans (h.own i hi)⟩
theorem FrM.of_below (P:Nat→Prop) {w w':World} (h:Below w.heap.size w w'):FrM P P w w':=⟨h.os,h.tape,h.output,h.size,fun k hk _=>h.block k hk,fun _ _=>Iff.rfl⟩
section
variable {B T : Nat} {s : MS} {w w' : World}
theorem MAt.lt (h:MAt B T s w):T<w.heap.size:=(Array.getElem?_eq_some_iff.1 h.box).1
theorem MAt.low (h:MAt B T s w) {k:Nat} (hk:s.own T k):B≤k∧k<w.heap.size:=by
 have hl:=h.lo
 rcases hk with hk|hk|hk
 ·have:=h.cert.low k hk;omega
 ·have:=h.sess.low k hk;omega
 ·rw [hk];exact ⟨hl.1,h.lt⟩
theorem MAt.keep (h:MAt B T s w) (hs:w.heap.size≤w'.heap.size) (hk:∀ k,k<w.heap.size→s.own T k→w'.heap[k]? = w.heap[k]?):MAt B T s w' :=
 ⟨(hk T h.lt (.inr (.inr rfl))).trans h.box,h.cert.keep hs fun k hl h0=>hk k hl (.inl h0),h.sess.keep hs fun k hl h0=>hk k hl (.inr (.inl h0)),h.two,h.own,h.lo,h.back,h.inv⟩
theorem MAt.below (h:MAt B T s w) (hb:Below w.heap.size w w'):MAt B T s w':=h.keep hb.size fun k hk _=>hb.block k hk
theorem MAt.fr_below {P:Nat→Prop} (h:MAt B T s w) (k:FrM (s.own T) P w w'):Below B w w' :=
 ⟨k.os,k.tape,k.output,k.size,fun i hi=>k.block i (by have:=h.lt;have:=h.lo;omega) fun h0=>by have:=(h.low h0).1;omega⟩
theorem box3 {b:Nat} {x0 x1 x2:Value} {T:TypeId} (h:w.heap[b]? = some (.cells #[x0,x1,x2] T (0,0))):w.cell? ⟨b,0,none⟩=some x0∧w.cell? ⟨b,1,none⟩=some x1∧w.cell? ⟨b,2,none⟩=some x2∧(∀ i,w.frozen? ⟨b,i,none⟩=false)∧b<w.heap.size :=
 ⟨by rw [cell_row h];rfl,by rw [cell_row h];rfl,by rw [cell_row h];rfl,fun i=>by simp [World.frozen?,h],(Array.getElem?_eq_some_iff.1 h).1⟩
theorem mIndex_any (h:MAt B T s w):Calls Tryz.prog 27 #[.pointer (some ⟨T,0,none⟩)] w (Ret (.int .i64 s.ix) w):=by
 obtain ⟨-,-,b2,-,bl⟩:=box3 h.box
 generalize s.ix=n at *
 clear h
 go_enter Tryz.func27,Tryz.ntmps27
 go_wp2_with fail
 go_ret
 exact ⟨rfl,by exact below_auto⟩
theorem mCount_any (h:MAt B T s w):Calls Tryz.prog 28 #[.pointer (some ⟨T,0,none⟩)] w (Ret (.int .i64 s.c.count) w):=by
 obtain ⟨b0,-,-,-,bl⟩:=box3 h.box
 have H:=count_any h.cert
 generalize s.c.count=n at *
 clear h
 go_enter Tryz.func28,Tryz.ntmps28
 go_wp2_with (go_at_call 16;with_reducible refine mQ (H) ?_;intro w1 hb1 hc1 hf1 hz1;intros)
 go_ret
 exact ⟨rfl,by exact below_auto⟩
theorem mHorizon_any (h:MAt B T s w):Calls Tryz.prog 35 #[.pointer (some ⟨T,0,none⟩)] w (Ret (.int .i64 s.c.horizon) w):=by
 obtain ⟨b0,-,-,-,bl⟩:=box3 h.box
 have H:=horizon_any h.cert
 generalize s.c.horizon=n at *
 clear h
 go_enter Tryz.func35,Tryz.ntmps35
 go_wp2_with (go_at_call 17;with_reducible refine mQ (H) ?_;intro w1 hb1 hc1 hf1 hz1;intros)
 go_ret
 exact ⟨rfl,by exact below_auto⟩
end
theorem newT_any (w:World):Calls Tryz.prog 72 #[] w fun e w'=>e=.returned (.pointer (some ⟨w.heap.size+1,0,none⟩))∧w'=(w.alloc (.map #[] 0)).alloc (.cells #[.map (some w.heap.size)] 251):=by
 have hmm:=fun w=>run_makeMap (P:=Tryz.prog) 249 w
 go_enter Tryz.func72,Tryz.ntmps72
 go_wp2_with fail
 go_ret
 exact ⟨rfl,rfl⟩
theorem newT_at (w:World):Z.SAt w.heap.size (w.heap.size+1) w.heap.size [] (fun k=>if k=w.heap.size∨k=w.heap.size+1 then 1 else 0) ((w.alloc (.map #[] 0)).alloc (.cells #[.map (some w.heap.size)] 251)):=by
 refine ⟨?_,by simp,(World.ownsMap_made w Tryz.prog 2 heldR).alloc _,by simp,(fun _ h=>nomatch h),(fun _ h=>nomatch h),fun k hk=>?_,List.Pairwise.nil,(fun _ h=>nomatch h),Nat.zero_le _⟩
 ·have:=heap_alloc_new (w.alloc (.map #[] 0)) (.cells #[.map (some w.heap.size)] 251)
  simpa using this
 ·have hk:k=w.heap.size∨k=w.heap.size+1:=Classical.byContradiction fun h=>hk (by simp [h])
  simp;omega
def MNewRet (kp old:Int) (w:World) (e:Ending) (w':World):Prop:=∃ (T:Nat) (s:MS),e=.returned (.pointer (some ⟨T,0,none⟩))∧MAt w.heap.size T s w'∧Below w.heap.size w w'∧s.d=⟨newC kp old 0 0 0 0,[],0⟩∧s.c.keep=kp∧s.c.old=old
set_option maxHeartbeats 1000000 in
theorem mNew_any (keep old:Int) (w:World) (ho:-9223372036854775808≤old∧old≤9223372036854775807) :
  Calls Tryz.prog 23 #[.agg #[.int .i64 keep,.int .i64 old]] w (MNewRet (min (max keep 1) 32) old w):=by
 have HN:=hid fun W=>new_any keep old W ho
 obtain ⟨kp,hkp⟩:∃ kp,kp=min (max keep 1) 32:=⟨_,rfl⟩
 have HKP:=hid (show 1≤kp from by omega)
 rw [←hkp] at HN ⊢
 clear hkp
 go_enter Tryz.func23,Tryz.ntmps23
 go_upto_region 1 with fail
 generalize hW1:World.alloc _ _=w1
 have hb1:Below w.heap.size w w1:=by rw [←hW1];exact below_auto
 have q1:w1.heap[w.heap.size]? = some (.cells #[.int .i64 keep,.int .i64 old] 26 (0,0)):=by rw [←hW1];exact heap_alloc_new w _
 clear hW1
 obtain ⟨y0,y1,-,-⟩:=box2 q1
 have hy:=(Array.getElem?_eq_some_iff.1 q1).1
 go_wp2_with fail
 refine (HN.out _).mono ?_
 rintro e w2 ⟨tc,p1,p2,p3,p4,o1,rfl,hC,hb2⟩
 clear HN y0 y1 q1
 go_wp2_with fail
 refine (newT_any _).mono ?_
 rintro e w3 ⟨rfl,rfl⟩
 have hS:=newT_at w2
 have hb3:Below w2.heap.size w2 ((w2.alloc (.map #[] 0)).alloc (.cells #[.map (some w2.heap.size)] 251)):=by exact below_auto
 have hsz3:((w2.alloc (.map #[] 0)).alloc (.cells #[.map (some w2.heap.size)] 251)).heap.size=w2.heap.size+2:=by simp
 obtain ⟨ts,hts⟩:∃ ts,ts=w2.heap.size+1:=⟨_,rfl⟩
 rw [←hts] at hS ⊢
 have HTS:=hid hts
 clear hts
 generalize (w2.alloc (.map #[] 0)).alloc (.cells #[.map (some w2.heap.size)] 251)=w3 at *
 have HF:=hid (show ∀ W,W=w3.alloc (.cells #[.pointer (some ⟨tc,0,none⟩),.pointer (some ⟨ts,0,none⟩),.int .i64 0] 169)→MNewRet kp old w (.returned (.pointer (some ⟨w3.heap.size,0,none⟩))) W from by
  rintro W rfl
  have hb4:Below w3.heap.size w3 (w3.alloc (.cells #[.pointer (some ⟨tc,0,none⟩),.pointer (some ⟨ts,0,none⟩),.int .i64 0] 169)):=by exact below_auto
  have hcl:=hC.low
  have hz1:=hb1.size;have hz2:=hb2.size;have hz3:=hb3.size;have hTS:=HTS.out
  refine ⟨w3.heap.size,⟨newC kp old p1 p2 p3 p4,[],w2.heap.size,tc,ts,o1,fun k=>if k=w2.heap.size∨k=ts then 1 else 0,0,w1.heap.size,w2.heap.size⟩,rfl,⟨heap_alloc_new w3 _,(hC.below hb3).below hb4,hS.below hb4,fun k=>?_,⟨?_,?_⟩,⟨show w.heap.size≤w3.heap.size by omega,show w.heap.size≤w1.heap.size by omega,show w.heap.size≤w2.heap.size by omega⟩,Back.new kp old HKP.out p1 p2 p3 p4,TInv.nil⟩,?_,rfl,rfl,rfl⟩
  ·by_cases h0:o1 k=0
   ·exact .inl h0
   ·have:=hcl k h0
    refine .inr (if_neg ?_);omega
  ·exact Classical.byContradiction fun h0=>by have:=hcl _ h0;omega
  ·refine if_neg ?_;omega
  ·exact ((hb1.trans (hb2.mono hz1)).trans (hb3.mono (by omega))).trans (hb4.mono (by omega)))
 clear hC hb1 hb2 hS hb3 hsz3
 go_wp2_with fail
 go_ret
 exact HF.out _ rfl
open Go.Proofs.YtdeeoddacnealaaGreat.C (CL CAt Fr Back SubL SubV.n dec_back codeD numC stepC)
open Go.Proofs.YtdeeoddacnealaaGreat.P (dec ofD BelowB Above DecodeRet2 decode_any2 SameD ls1 ls2 ls3)

def ApRet (B T:Nat) (s:MS) (r:MD×AD×Int) (w:World) (e:Ending) (w':World):Prop :=
 e=.returned (.tuple #[.agg #[.int .i64 r.2.1.s0,.int .i64 r.2.1.s1,.int .i64 r.2.1.code,.int .i64 r.2.1.num,.bool r.2.1.fresh],.int .i64 r.2.2])∧∃ s':MS,MAt B T s' w'∧s'.d=r.1∧FrM (s.own T) (s'.own T) w w'∧s'.c.keep=s.c.keep∧s'.c.old=s.c.old
section
variable {B T : Nat} {s : MS} {w w' : World}
theorem MAt.index (h:MAt B T s w) (n:Int):MAt B T { s with ix:=n } (w.setCell ⟨T,2,none⟩ (.int .i64 n))∧w.grownBy (w.setCell ⟨T,2,none⟩ (.int .i64 n)) (some T):=by
 obtain ⟨r,g⟩:=K.set1 (i:=2) h.box (.int .i64 n)
 refine ⟨⟨r,h.cert.keep g.size fun k hk h0=>g.block k hk fun e=>?_,h.sess.keep g.size fun k hk h0=>g.block k hk fun e=>?_,h.two,h.own,h.lo,h.back,h.inv⟩,g⟩
 ·cases e;exact h0 h.own.1
 ·cases e;exact h0 h.own.2
theorem MAt.cert' (h:MAt B T s w) {c':CL} {o':Nat→Nat} (hc:CAt s.bc s.tc c' o' w') (f:Fr s.o1 o' w w') (hb:Back c'):MAt B T { s with c:=c',o1:=o' } w'∧FrM (s.own T) (({ s with c:=c',o1:=o' }:MS).own T) w w':=by
 have hl:=h.lt
 have hk:∀ k,k<w.heap.size→s.o1 k=0→w'.heap[k]? = w.heap[k]?:=f.block
 refine ⟨⟨(hk T hl h.own.1).trans h.box,hc,h.sess.keep f.size fun k hk' h0=>hk k hk' ((h.two k).resolve_right h0),fun k=>?_,⟨(f.own T hl).trans h.own.1,h.own.2⟩,h.lo,hb,h.inv⟩,⟨f.os,f.tape,f.output,f.size,fun k hk' hn=>f.block k hk' (Classical.byContradiction fun h0=>hn (.inl h0)),fun k hk'=>?_⟩⟩
 ·by_cases hk':k<w.heap.size
  ·show o' k=0∨s.o2 k=0
   rw [f.own k hk'];exact h.two k
  ·exact .inr (Classical.byContradiction fun h0=>hk' (h.sess.low k h0).2)
 ·show (o' k≠0∨_∨_)↔(s.o1 k≠0∨_∨_)
  rw [f.own k hk']
theorem MAt.sess' (h:MAt B T s w) {os':List SL} {o':Nat→Nat} (hs:Z.SAt s.bs s.ts s.mb os' o' w') (f:Fr s.o2 o' w w') (hI:TInv (os'.map SL.d)):MAt B T { s with os:=os',o2:=o' } w'∧FrM (s.own T) (({ s with os:=os',o2:=o' }:MS).own T) w w':=by
 have hl:=h.lt
 have hk:∀ k,k<w.heap.size→s.o2 k=0→w'.heap[k]? = w.heap[k]?:=f.block
 refine ⟨⟨(hk T hl h.own.2).trans h.box,h.cert.keep f.size fun k hk' h0=>hk k hk' ((h.two k).resolve_left h0),hs,fun k=>?_,⟨h.own.1,(f.own T hl).trans h.own.2⟩,h.lo,h.back,hI⟩,⟨f.os,f.tape,f.output,f.size,fun k hk' hn=>f.block k hk' (Classical.byContradiction fun h0=>hn (.inr (.inl h0))),fun k hk'=>?_⟩⟩
 ·by_cases hk':k<w.heap.size
  ·show s.o1 k=0∨o' k=0
   rw [f.own k hk'];exact h.two k
  ·exact .inl (Classical.byContradiction fun h0=>hk' (h.cert.low k h0).2)
 ·show (_∨o' k≠0∨_)↔(_∨s.o2 k≠0∨_)
  rw [f.own k hk']
theorem box4 {b:Nat} {x0 x1 x2 x3:Value} {t:TypeId} (h:w.heap[b]? = some (.cells #[x0,x1,x2,x3] t (0,0))):w.cell? ⟨b,0,none⟩=some x0∧w.cell? ⟨b,1,none⟩=some x1∧w.cell? ⟨b,2,none⟩=some x2∧w.cell? ⟨b,3,none⟩=some x3∧b<w.heap.size :=
 ⟨by rw [cell_row h];rfl,by rw [cell_row h];rfl,by rw [cell_row h];rfl,by rw [cell_row h];rfl,(Array.getElem?_eq_some_iff.1 h).1⟩
theorem box5 {b:Nat} {x0 x1 x2 x3 x4:Value} {t:TypeId} (h:w.heap[b]? = some (.cells #[x0,x1,x2,x3,x4] t (0,0))):(w.cell? ⟨b,0,none⟩=some x0∧w.cell? ⟨b,1,none⟩=some x1∧w.cell? ⟨b,2,none⟩=some x2∧w.cell? ⟨b,3,none⟩=some x3∧w.cell? ⟨b,4,none⟩=some x4)∧(w.frozen? ⟨b,0,none⟩=false∧w.frozen? ⟨b,1,none⟩=false∧w.frozen? ⟨b,2,none⟩=false∧w.frozen? ⟨b,3,none⟩=false∧w.frozen? ⟨b,4,none⟩=false)∧b<w.heap.size :=
 ⟨⟨by rw [cell_row h];rfl,by rw [cell_row h];rfl,by rw [cell_row h];rfl,by rw [cell_row h];rfl,by rw [cell_row h];rfl⟩,⟨by simp [World.frozen?,h],by simp [World.frozen?,h],by simp [World.frozen?,h],by simp [World.frozen?,h],by simp [World.frozen?,h]⟩,(Array.getElem?_eq_some_iff.1 h).1⟩
theorem set5 {b:Nat} {x0 x1 x2 x3 x4:Value} {t:TypeId} (h:w.heap[b]? = some (.cells #[x0,x1,x2,x3,x4] t (0,0))) (v0 v1 v2 v3 v4:Value) :
  w.grownBy (((((w.setCell ⟨b,0,none⟩ v0).setCell ⟨b,1,none⟩ v1).setCell ⟨b,2,none⟩ v2).setCell ⟨b,3,none⟩ v3).setCell ⟨b,4,none⟩ v4) (some b):=by
 obtain ⟨q0,k0⟩:=K.set1 (i:=0) h v0
 obtain ⟨q1,k1⟩:=K.set1 (i:=1) q0 v1
 obtain ⟨q2,k2⟩:=K.set1 (i:=2) q1 v2
 obtain ⟨q3,k3⟩:=K.set1 (i:=3) q2 v3
 obtain ⟨q4,k4⟩:=K.set1 (i:=4) q3 v4
 exact (((k0.trans k1).trans k2).trans k3).trans k4
theorem set23 {b:Nat} {x0 x1 x2 x3 x4:Value} {t:TypeId} (h:w.heap[b]? = some (.cells #[x0,x1,x2,x3,x4] t (0,0))) (v2 v3:Value) :
  ((w.setCell ⟨b,2,none⟩ v2).setCell ⟨b,3,none⟩ v3).heap[b]? = some (.cells #[x0,x1,v2,v3,x4] t (0,0))∧w.grownBy ((w.setCell ⟨b,2,none⟩ v2).setCell ⟨b,3,none⟩ v3) (some b):=by
 obtain ⟨q0,k0⟩:=K.set1 (i:=2) h v2
 obtain ⟨q1,k1⟩:=K.set1 (i:=3) q0 v3
 exact ⟨q1,k0.trans k1⟩
theorem same_ofD {x:SubV} {d:P.Dt} (h:SameD x (ofD d)):SubV.n x=ofD d:=by
 obtain ⟨h0,h1,h2,h3,h4,h5⟩:=h
 obtain ⟨s0,s1,s2,ra,rc,rs,sa,sc,ss,wa,wc,ws⟩:=x
 simp only at h0 h1 h2 h3 h4 h5
 subst h0 h1 h2 h3 h4 h5
 rfl
theorem inv_putR {t:List SD} (h:TInv t) (id:Int) (x:SIt):TInv (putR t id x):=by
 unfold putR
 split
 ·rename_i h0
  unfold putC at h0
  by_cases h1:(lookT t id x.seq).1≠0
  ·rw [if_pos h1] at h0;exact absurd h0 h1
  ·rw [if_neg h1] at h0
   refine h.put (Classical.byContradiction h1) ?_
   by_cases h2:okV x.code x.num=true
   ·exact h2
   ·rw [if_neg h2] at h0;cases h0
 ·exact h
def DcP (B T:Nat) (s3:MS) (Y0:World) (m:MD) (X:World):Prop:=∃ s':MS,MAt B T s' X∧FrM (s3.own T) (s'.own T) Y0 X∧s'.d=m∧s'.c.keep=s3.c.keep∧s'.c.old=s3.c.old
def DcR (Y0:World) (A:Nat) (cd nm:Int) (Q:World→Prop):List Value→World→Prop
 | [],X=>X=Y0
 | [v],X=>v=.agg #[.int .i64 cd,.int .i64 nm]∧Q X
 | [_,_],X=>∃ X1,Q X1∧X=(X1.setCell ⟨A,2,none⟩ (.int .i64 cd)).setCell ⟨A,3,none⟩ (.int .i64 nm)
 | _,X=>∃ X1,Q X1∧X=((X1.setCell ⟨A,2,none⟩ (.int .i64 cd)).setCell ⟨A,3,none⟩ (.int .i64 nm)).setCell ⟨A,4,none⟩ (.bool true)
theorem mDec_any {s3:MS} {x:SubV} {d:P.Dt} (h:MAt B T s3 w) (hx:x.At w) (hb:∀ a:Addr,(x.ra=some a∨x.sa=some a∨x.wa=some a)→∀ k,k=a.block→s3.o1 k=0) (hs:SameD x (ofD d)) (hk:K.SubV.check (ofD d)=0) :
  Calls Tryz.prog 14 #[.pointer (some ⟨s3.tc,0,none⟩),.agg #[.int .i64 x.s0,.int .i64 x.s1,.int .i64 x.s2,.slice x.ra x.rs.length x.rc,.slice x.sa x.ss.length x.sc,.slice x.wa x.ws.length x.wc]] w fun e X=>e=.returned (.agg #[.int .i64 (codeD s3.d.c (ofD d) 0),.int .i64 (numC s3.d.c (ofD d) 0)])∧DcP B T s3 w ⟨stepC s3.d.c (ofD d) 0,s3.d.t,s3.ix⟩ X:=by
 have hkx:K.SubV.check x=0:=hs.check.trans hk
 refine (dec_back h.cert h.back (x:=x) ⟨hx,fun _ b o e=>hb _ (.inl e) _ rfl,fun _ b o e=>hb _ (.inr (.inl e)) _ rfl,fun _ b o e=>hb _ (.inr (.inr e)) _ rfl⟩).mono ?_
 rintro e X ⟨rfl,c',o',h1,h2,h3,h4,h5,h6⟩
 rw [hkx,same_ofD hs]
 rw [hkx,same_ofD hs] at h4
 obtain ⟨k1,k2⟩:=h.cert' h1 h2 h3
 exact ⟨rfl,_,k1,k2,by show (⟨CL.n c',_,_⟩:MD)=_;rw [h4];rfl,h5,h6⟩
theorem ap_fin {s':MS} {X:World} {r:MD×AD×Int} (h:MAt B T s' X) (f:FrM (s.own T) (s'.own T) w X) (hd:s'.d=r.1) (hk:s'.c.keep=s.c.keep∧s'.c.old=s.c.old) {R:Nat} (hR:w.heap.size≤R∧¬s'.own T R) (g:X.grownBy w' (some R)) :
  ApRet B T s r w (.returned (.tuple #[.agg #[.int .i64 r.2.1.s0,.int .i64 r.2.1.s1,.int .i64 r.2.1.code,.int .i64 r.2.1.num,.bool r.2.1.fresh],.int .i64 r.2.2])) w' :=
 ⟨rfl,s',h.keep g.size fun k hk h0=>g.block k hk fun e=>by cases e;exact hR.2 h0,hd,⟨g.os.trans f.os,g.tape.trans f.tape,g.output.trans f.output,Nat.le_trans f.size g.size,fun k hk h0=>(g.block k (Nat.lt_of_lt_of_le hk f.size) fun e=>by have:=Option.some.inj e;omega).trans (f.block k hk h0),f.own⟩,hk⟩
theorem below_data {a:Option Addr} {c:Nat} {bs:List Nat} (hd:BelowB w.heap.size w a c bs) (hda:∀ p,a=some p→bs≠[]→p.block≠T) (hs:w.heap.size≤w'.heap.size) (hk:∀ k,k<w.heap.size→k≠T→w'.heap[k]? = w.heap[k]?):BelowB w'.heap.size w' a c bs:=by
 refine ⟨?_,hd.lt,hd.cap⟩
 by_cases h0:bs=[]
 ·exact .inl h0
 rcases hd.row with h1|⟨b,o,h1,h2,h3⟩
 ·exact absurd h1 h0
 ·refine .inr ⟨b,o,h1,Nat.lt_of_lt_of_le h2 hs,fun i hi=>?_⟩
  rw [←h3 i hi]
  unfold World.cell?
  rw [hk b h2 (hda _ h1 h0)]
end
set_option maxHeartbeats 8000000 in
set_option maxRecDepth 100000 in
theorem apply_any {B T:Nat} {s:MS} {w:World} (h:MAt B T s w) (hix:0≤s.ix∧s.ix≤4611686018427387904) (ix term kind:Int) (a:Option Addr) (c:Nat) (bs:List Nat) (hd:BelowB w.heap.size w a c bs) (hda:∀ p,a=some p→bs≠[]→p.block≠T) :
  Calls Tryz.prog 25 #[.pointer (some ⟨T,0,none⟩),.agg #[.int .i64 ix,.int .i64 term,.int .i64 kind,.slice a bs.length c]] w (ApRet B T s (applyD s.d ix kind bs) w):=by
 obtain ⟨r,hr⟩:∃ r,r=applyD s.d ix kind bs:=⟨_,rfl⟩
 rw [←hr]
 unfold applyD at hr
 have HH:=hid h
 have HD:=hid fun (W:World) hs hk=>below_data (w':=W) hd hda hs hk
 obtain ⟨n,hn⟩:∃ n,n=bs.length:=⟨_,rfl⟩
 have HN:=hid hn
 rw [←hn]
 have HR:=hid hr
 have hTl:=h.lt
 have hsx:s.d.ix=s.ix:=rfl
 rw [hsx] at HR
 clear hd hda hn hr hsx
 obtain ⟨-,-,b2,bf,bl⟩:=box3 h.box
 obtain ⟨sx,hsx⟩:∃ v,v=s.ix:=⟨_,rfl⟩
 rw [←hsx] at b2 hix HR
 have HSX:=hid hsx
 clear h hsx
 go_enter Tryz.func25,Tryz.ntmps25
 go_upto_region 1 with fail
 generalize hW1:World.alloc (World.alloc _ _) _=w1
 have hb1:Below w.heap.size w w1:=by rw [←hW1];exact below_auto
 have q0:w1.heap[w.heap.size]? = some (.cells #[.int .i64 ix,.int .i64 term,.int .i64 kind,.slice a n c] 74 (0,0)):=by
  rw [←hW1]
  exact ((World.grownBy_alloc (w.alloc (.cells #[.int .i64 ix,.int .i64 term,.int .i64 kind,.slice a n c] 74)) _ none).block _ (by simp) (by simp)).trans (heap_alloc_new w _)
 have q1:w1.heap[w.heap.size+1]? = some (.cells #[.int .i64 0,.int .i64 0,.int .i64 0,.int .i64 0,.bool false] 70 (0,0)):=by
  rw [←hW1]
  have:=heap_alloc_new (w.alloc (.cells #[.int .i64 ix,.int .i64 term,.int .i64 kind,.slice a n c] 74)) (.cells #[.int .i64 0,.int .i64 0,.int .i64 0,.int .i64 0,.bool false] 70)
  simpa using this
 clear hW1
 have c2:=(hb1.cell (p:=⟨T,2,none⟩) bl).trans b2
 have bl1:T<w1.heap.size:=Nat.lt_of_lt_of_le bl hb1.size
 obtain ⟨k0,k1,k2,k3,kl⟩:=box4 q0
 (refine wp_region_ext (by kernel_rfl) (by kernel_rfl) ?_;(repeat (go_big_quiet_step (first|fail)));refine mX ?_;intro w2 hb2 hc2 hf2 hz2;intros)
 have hb02:=hb1.trans (hb2.mono hb1.size)
 have q0:=(hb2.block _ kl).trans q0
 have q1:=(hb2.block _ (Array.getElem?_eq_some_iff.1 q1).1).trans q1
 clear k0 k1 k2 k3 kl c2 bl1 hc2 hf2 hz2 hb2 hb1 b2 bf
 have hM:=HH.out.below hb02
 have HQ1:=hid q1
 obtain ⟨⟨y0,y1,y2,y3,y4⟩,⟨e0,e1,e2,e3,e4⟩,yl⟩:=box5 q1
 by_cases hg:ix=sx+1
 rotate_left
 ·have HF:=hid (show ∀ W,w2.grownBy W (some (w.heap.size+1))→ApRet B T s r w (.returned (.tuple #[.agg #[.int .i64 0,.int .i64 0,.int .i64 0,.int .i64 0,.bool false],.int .i64 60])) W from fun W g=>by
   have hr:r=(s.d,aZero,60):=by rw [HR.out,if_pos hg]
   have:=ap_fin (r:=r) hM (FrM.of_below _ hb02) (by rw [hr]) ⟨rfl,rfl⟩ (R:=w.heap.size+1) ⟨by omega,fun h0=>by have:=(HH.out.low h0).2;omega⟩ g
   rw [hr] at this ⊢;exact this)
  have HG:=hid (set5 q1 (.int .i64 0) (.int .i64 0) (.int .i64 0) (.int .i64 0) (.bool false))
  have hne:¬sx+1=ix:=fun e=>hg e.symm
  have hgb:(ix == sx+1)=false:=by simpa using hg
  clear q0 q1 hM
  go_wp2_with fail
  refine bodyPost_ret (v:=.tuple #[.agg #[.int .i64 0,.int .i64 0,.int .i64 0,.int .i64 0,.bool false],.int .i64 60]) (by simp [results,Tryz.results25,go_sem, *]) rfl ?_
  exact HF.out _ HG.out
 have HR2:=hid (show r=if kind≠1 then (⟨s.d.c,s.d.t,ix⟩,aZero,0) else applyB s.d ix bs from by rw [HR.out,if_neg (fun h=>h hg)])
 have hgb:(ix != sx+1)=false:=by simpa using hg
 clear hg
 obtain ⟨-,-,m2,mf,ml⟩:=box3 hM.box
 obtain ⟨k0,k1,k2,k3,kl⟩:=box4 q0
 have m2f:=mf 2
 have HMI:=hid (hM.index ix)
 have HM0:=hid hM
 clear HR mf hM
 go_upto_region 4 with fail
 obtain ⟨w3,hw3⟩:∃ W,W=w2.setCell ⟨T,2,none⟩ (.int .i64 ix):=⟨_,rfl⟩
 rw [←hw3] at HMI ⊢
 obtain ⟨hM3,hg3⟩:=HMI.out
 obtain ⟨s3,hs3⟩:∃ s3:MS,s3 = { s with ix:=ix }:=⟨_,rfl⟩
 rw [←hs3] at hM3
 have own3:s3.own T=s.own T:=by rw [hs3];rfl
 have hz23:=hg3.size
 have q0:=(hg3.block _ kl fun e=>by have:=Option.some.inj e;omega).trans q0
 have q1:=(hg3.block _ yl fun e=>by have:=Option.some.inj e;omega).trans q1
 have hF3:FrM (s.own T) (s3.own T) w w3:=by
  rw [own3]
  exact ⟨hg3.os.trans hb02.os,hg3.tape.trans hb02.tape,hg3.output.trans hb02.output,Nat.le_trans hb02.size hz23,fun k hk h0=>(hg3.block k (Nat.lt_of_lt_of_le hk hb02.size) fun e=>h0 (.inr (.inr (Option.some.inj e)))).trans (hb02.block k hk),fun _ _=>Iff.rfl⟩
 have hdat:=HD.out w3 hF3.size fun k hk hne=>(hg3.block k (Nat.lt_of_lt_of_le hk hb02.size) fun e=>hne (Option.some.inj e)).trans (hb02.block k hk)
 have hD3:s3.d=⟨s.d.c,s.d.t,ix⟩:=by rw [hs3];rfl
 have hK3:s3.c.keep=s.c.keep∧s3.c.old=s.c.old:=by rw [hs3];exact ⟨rfl,rfl⟩
 have free3:∀ k,w.heap.size≤k→¬s3.own T k:=fun k hk h0=>by
  rw [own3] at h0
  have:=(HH.out.low h0).2;omega
 clear hw3 HMI hg3 k0 k1 k2 k3 kl m2 m2f ml y0 y1 y2 y3 y4 e0 e1 e2 e3 e4 yl hb02 HM0 HQ1 hz23 HD hs3
 obtain ⟨k0,k1,k2,k3,kl⟩:=box4 q0
 obtain ⟨⟨y0,y1,y2,y3,y4⟩,⟨e0,e1,e2,e3,e4⟩,yl⟩:=box5 q1
 have HIDLE:=hid (show r=(⟨s.d.c,s.d.t,ix⟩,aZero,0)→∀ X W,Below w3.heap.size w3 X→X.grownBy W (some (w.heap.size+1))→ApRet B T s r w (.returned (.tuple #[.agg #[.int .i64 0,.int .i64 0,.int .i64 0,.int .i64 0,.bool false],.int .i64 0])) W from fun hr X W hb g=>by
  have:=ap_fin (r:=r) (hM3.below hb) (hF3.trans (FrM.of_below _ hb)) (by rw [hr];exact hD3) hK3 (R:=w.heap.size+1) ⟨by omega,free3 _ (by omega)⟩ g
  rw [hr] at this ⊢;exact this)
 have HM3:=hid hM3;have HF3:=hid hF3;have HFR:=hid free3;have HD3:=hid hD3;have HK3:=hid hK3
 by_cases hkd:kind=1
 rotate_left
 ·have HG:=hid (set5 q1 (.int .i64 0) (.int .i64 0) (.int .i64 0) (.int .i64 0) (.bool false))
  have HF:=hid (HIDLE.out (by rw [HR2.out,if_pos hkd]) w3)
  have hne:(kind == 1)=false:=by simpa using hkd
  clear q0 q1 hM3 hF3 hdat hD3 hK3 free3 own3
  go_wp2_with fail
  refine bodyPost_ret (v:=.tuple #[.agg #[.int .i64 0,.int .i64 0,.int .i64 0,.int .i64 0,.bool false],.int .i64 0]) (by simp [results,Tryz.results25,go_sem, *]) rfl ?_
  exact HF.out _ (Below.refl _ _) HG.out
 have HR3:=hid (show r=applyB s.d ix bs from by rw [HR2.out,if_neg (fun h=>h hkd)])
 unfold applyB at HR3
 have hkb:(kind != 1)=false:=by simpa using hkd
 clear hkd
 have HDEC:=hid (decode_any2 a c bs w3 hdat)
 have HQ1:=hid q1
 have HZW:Hid (w.heap.size+1<w3.heap.size):=hid yl
 rw [←HN.out] at HDEC
 clear HR2 q0 q1 hM3 hF3 hdat hD3 hK3 free3 own3 y0 y1 y2 y3 y4 e0 e1 e2 e3 e4 yl
 go_upto_region 6 with fail
 clear k0 k1 k2
 cases hdec:dec bs with
 | none =>
  rw [hdec] at HR3 HDEC
  simp only at HR3
  unfold DecodeRet2 at HDEC
  simp only at HDEC
  have HF:=hid (HIDLE.out HR3.out)
  go_upto_region 7 with (go_at_call 73;(with_reducible refine HDEC.out.mono ?_);rintro e w4 ⟨rfl,hb4⟩;refine mB hb4 ?_;intro hc4 hf4 hz4;intros)
  have hb45:Below w4.heap.size w4 (w4.alloc (.cells #[.int .i64 0,.int .i64 0,.int .i64 0,.slice none 0 0,.slice none 0 0,.slice none 0 0] 41)):=by exact below_auto
  generalize hW5:World.alloc _ _=w5 at *
  have hb5:=hb4.trans (hb45.mono hb4.size)
  have q1:=(hb5.block _ HZW.out).trans HQ1.out
  clear hW5 hb45 hc4 hf4 hz4 hb4
  obtain ⟨⟨y0,y1,y2,y3,y4⟩,⟨e0,e1,e2,e3,e4⟩,yl⟩:=box5 q1
  have HG:=hid (set5 q1 (.int .i64 0) (.int .i64 0) (.int .i64 0) (.int .i64 0) (.bool false))
  have HB5:=hid hb5
  clear q1 hb5 HDEC
  go_wp2_with fail
  refine bodyPost_ret (v:=.tuple #[.agg #[.int .i64 0,.int .i64 0,.int .i64 0,.int .i64 0,.bool false],.int .i64 0]) (by simp [results,Tryz.results25,go_sem, *]) rfl ?_
  exact HF.out _ _ HB5.out HG.out
 | some d =>
  rw [hdec] at HR3 HDEC
  simp only at HR3
  unfold DecodeRet2 at HDEC
  simp only at HDEC
  have hck:=(P.dec_some hdec).2
  clear hdec HIDLE
  go_upto_region 7 with (go_at_call 73;(with_reducible refine HDEC.out.mono ?_);rintro e w4 ⟨x,hsx,hxa,hxb,rfl,hb4⟩;refine mB hb4 ?_;intro hc4 hf4 hz4;intros)
  have q5:(w4.alloc (.cells #[.int .i64 x.s0,.int .i64 x.s1,.int .i64 x.s2,.slice x.ra x.rs.length x.rc,.slice x.sa x.ss.length x.sc,.slice x.wa x.ws.length x.wc] 41 (0,0))).heap[w4.heap.size]? = some (.cells #[.int .i64 x.s0,.int .i64 x.s1,.int .i64 x.s2,.slice x.ra x.rs.length x.rc,.slice x.sa x.ss.length x.sc,.slice x.wa x.ws.length x.wc] 41 (0,0)):=heap_alloc_new w4 _
  have hb45:Below w4.heap.size w4 (w4.alloc (.cells #[.int .i64 x.s0,.int .i64 x.s1,.int .i64 x.s2,.slice x.ra x.rs.length x.rc,.slice x.sa x.ss.length x.sc,.slice x.wa x.ws.length x.wc] 41 (0,0))):=by exact below_auto
  obtain ⟨S,hS⟩:∃ S,S=w4.heap.size:=⟨_,rfl⟩
  rw [←hS] at q5 ⊢
  generalize hW5:World.alloc _ _=w5 at *
  have HS:=hid hS
  have hb5:=hb4.trans (hb45.mono hb4.size)
  clear hW5 hc4 hf4 hz4 hS
  obtain ⟨t0,t1,t2,t3,t4,t5⟩:=P.box6 q5
  have tl:=(Array.getElem?_eq_some_iff.1 q5).1
  go_upto_region 10 with fail
  have q6:(w5.alloc (.cells #[.int .i64 x.s0,.int .i64 x.s1,.int .i64 0,.int .i64 0,.bool false] 70)).heap[w5.heap.size]? = some (.cells #[.int .i64 x.s0,.int .i64 x.s1,.int .i64 0,.int .i64 0,.bool false] 70 (0,0)):=heap_alloc_new w5 _
  have hb56:Below w5.heap.size w5 (w5.alloc (.cells #[.int .i64 x.s0,.int .i64 x.s1,.int .i64 0,.int .i64 0,.bool false] 70)):=by exact below_auto
  obtain ⟨A,hA⟩:∃ A,A=w5.heap.size:=⟨_,rfl⟩
  rw [←hA] at q6 ⊢
  generalize hW6:World.alloc _ _=w6 at *
  have HA:=hid hA
  have hb6:=hb5.trans (hb56.mono hb5.size)
  have q5:=(hb56.block _ tl).trans q5
  have q1:=(hb6.block _ HZW.out).trans HQ1.out
  have hAS:S<A∧w3.heap.size≤S∧A<w6.heap.size:=⟨by omega,by rw [HS.out];exact hb4.size,(Array.getElem?_eq_some_iff.1 q6).1⟩
  clear hW6 hA t0 t1 t2 t3 t4 t5 tl
  have hM6:=HM3.out.below hb6
  obtain ⟨D0,D1,_⟩:=P.right_D hck |>.1
  have es0:x.s0=d.1:=hsx.s0
  have es1:x.s1=d.2.1:=hsx.s1
  have hT6:s3.d.t=s.d.t:=by rw [HD3.out]
  have LK:=hid fun W (hb:Below w6.heap.size w6 W)=>(show Calls Tryz.prog 74 #[.pointer (some ⟨s3.ts,0,none⟩),.int .i64 x.s0,.int .i64 x.s1] W (Ret (.tuple #[.agg #[.int .i64 (lookT s.d.t d.1 d.2.1).2.1,.int .i64 (lookT s.d.t d.1 d.2.1).2.2],.int .i64 (lookT s.d.t d.1 d.2.1).1]) W) from by
   have:=look_any (hM6.below hb).sess hM6.inv x.s0 x.s1 (by rw [es0];unfold P.NumD at D0;simp only [P.toD_ofD] at D0;omega)
   have e:s3.os.map SL.d=s.d.t:=hT6
   rw [e,es0,es1] at this
   rw [es0,es1];exact this)
  unfold applyS at HR3
  generalize hll:lookT s.d.t d.1 d.2.1=l at *
  obtain ⟨lc,l1,l2⟩:=l
  simp only at LK HR3
  have HLL:=hid hll
  have HXA:=hid (hxa.below (hb45.trans (hb56.mono hb45.size)))
  have HXB:=hid hxb
  have HSX':=hid hsx
  have HE:=hid (And.intro es0 es1)
  have HM6:=hid hM6
  have HB6:=hid hb6
  have HQ6:=hid q6;have HQ5:=hid q5;have HQ61:=hid q1;have HAS:=hid hAS
  have HCK:=hid hck
  obtain ⟨-,ms1,-,-,ml⟩:=box3 hM6.box
  obtain ⟨t0,t1,t2,t3,t4,t5⟩:=P.box6 q5
  have tl:=(Array.getElem?_eq_some_iff.1 q5).1
  clear q6 q5 q1 hxa hxb hsx hb45 hb56 hb5 hb4 hM6 hb6 hll D0 D1 hT6 hck HDEC es0 es1 hAS kl k3
  refine wp_region_notes_late [Note.val (.pointer (some ⟨T,0,none⟩)),Note.val (.pointer (some ⟨T,0,none⟩)),Note.val (.pointer (some ⟨T,1,none⟩)),Note.val (.pointer (some ⟨s3.ts,0,none⟩)),Note.val (.pointer (some ⟨S,0,none⟩)),Note.val (.int .i64 x.s0),Note.val (.pointer (some ⟨S,1,none⟩)),Note.val (.int .i64 x.s1),Note.val (.tuple #[.agg #[.int .i64 l1,.int .i64 l2],.int .i64 lc]),Note.val (.tuple #[.agg #[.int .i64 l1,.int .i64 l2],.int .i64 lc]),Note.val (.agg #[.int .i64 l1,.int .i64 l2]),Note.val (.int .i64 lc),Note.ptr [.int .i64 0,.int .i64 0]] 11 rfl (by kernel_rfl) (by kernel_rfl) ?_ ?_ ?_
  ·simp only [List.length_cons,List.length_nil,Nat.reduceAdd,List.take_succ_cons,List.take_zero,StepsN,List.nil_append,List.cons_append]
   refine ⟨?_,?_,?_,?_,?_,?_,?_,?_,?_,?_,?_,?_,?_,trivial⟩
   ·intro u w10 hb10 hd
    refine mB hb10 ?_;intro hc10 hf10 hz10;intros
    refine mH ?_;clear hd
    ((try simp only [forall_exists_index,and_imp]);intros)
    clear u
    go_wp2_with (first|(go_at_call 74;(with_reducible refine (LK.out _ hb10).mono ?_);rintro e wy ⟨rfl,hby⟩))
    exact ⟨rfl,by exact below_auto,rfl⟩
   ·intro u w10 hb10 hd
    refine mB hb10 ?_;intro hc10 hf10 hz10;intros
    refine mH ?_;clear hd
    generalize u 0=u0
    ((try simp only [forall_exists_index,and_imp]);intros)
    (try subst u0)
    clear u
    go_wp2_with (first|(go_at_call 74;(with_reducible refine (LK.out _ hb10).mono ?_);rintro e wy ⟨rfl,hby⟩))
    exact ⟨rfl,by exact below_auto,rfl⟩
   ·intro u w10 hb10 hd
    refine mB hb10 ?_;intro hc10 hf10 hz10;intros
    refine mH ?_;clear hd
    generalize u 0=u0
    generalize u 1=u1
    ((try simp only [forall_exists_index,and_imp]);intros)
    (try subst u0)
    (try subst u1)
    clear u
    go_wp2_with (first|(go_at_call 74;(with_reducible refine (LK.out _ hb10).mono ?_);rintro e wy ⟨rfl,hby⟩))
    exact ⟨rfl,by exact below_auto,rfl⟩
   ·intro u w10 hb10 hd
    refine mB hb10 ?_;intro hc10 hf10 hz10;intros
    refine mH ?_;clear hd
    generalize u 0=u0
    generalize u 1=u1
    generalize u 2=u2
    ((try simp only [forall_exists_index,and_imp]);intros)
    (try subst u0)
    (try subst u1)
    (try subst u2)
    clear u
    go_wp2_with (first|(go_at_call 74;(with_reducible refine (LK.out _ hb10).mono ?_);rintro e wy ⟨rfl,hby⟩))
    exact ⟨rfl,by exact below_auto,rfl⟩
   ·intro u w10 hb10 hd
    refine mB hb10 ?_;intro hc10 hf10 hz10;intros
    refine mH ?_;clear hd
    generalize u 0=u0
    generalize u 1=u1
    generalize u 2=u2
    generalize u 3=u3
    ((try simp only [forall_exists_index,and_imp]);intros)
    (try subst u0)
    (try subst u1)
    (try subst u2)
    (try subst u3)
    clear u
    go_wp2_with (first|(go_at_call 74;(with_reducible refine (LK.out _ hb10).mono ?_);rintro e wy ⟨rfl,hby⟩))
    exact ⟨rfl,by exact below_auto,rfl⟩
   ·intro u w10 hb10 hd
    refine mB hb10 ?_;intro hc10 hf10 hz10;intros
    refine mH ?_;clear hd
    generalize u 0=u0
    generalize u 1=u1
    generalize u 2=u2
    generalize u 3=u3
    generalize u 4=u4
    ((try simp only [forall_exists_index,and_imp]);intros)
    (try subst u0)
    (try subst u1)
    (try subst u2)
    (try subst u3)
    (try subst u4)
    clear u
    go_wp2_with (first|(go_at_call 74;(with_reducible refine (LK.out _ hb10).mono ?_);rintro e wy ⟨rfl,hby⟩))
    exact ⟨rfl,by exact below_auto,rfl⟩
   ·intro u w10 hb10 hd
    refine mB hb10 ?_;intro hc10 hf10 hz10;intros
    refine mH ?_;clear hd
    generalize u 0=u0
    generalize u 1=u1
    generalize u 2=u2
    generalize u 3=u3
    generalize u 4=u4
    generalize u 5=u5
    ((try simp only [forall_exists_index,and_imp]);intros)
    (try subst u0)
    (try subst u1)
    (try subst u2)
    (try subst u3)
    (try subst u4)
    (try subst u5)
    clear u
    go_wp2_with (first|(go_at_call 74;(with_reducible refine (LK.out _ hb10).mono ?_);rintro e wy ⟨rfl,hby⟩))
    exact ⟨rfl,by exact below_auto,rfl⟩
   ·intro u w10 hb10 hd
    refine mB hb10 ?_;intro hc10 hf10 hz10;intros
    refine mH ?_;clear hd
    generalize u 0=u0
    generalize u 1=u1
    generalize u 2=u2
    generalize u 3=u3
    generalize u 4=u4
    generalize u 5=u5
    generalize u 6=u6
    ((try simp only [forall_exists_index,and_imp]);intros)
    (try subst u0)
    (try subst u1)
    (try subst u2)
    (try subst u3)
    (try subst u4)
    (try subst u5)
    (try subst u6)
    clear u
    go_wp2_with (first|(go_at_call 74;(with_reducible refine (LK.out _ hb10).mono ?_);rintro e wy ⟨rfl,hby⟩))
    exact ⟨rfl,by exact below_auto,rfl⟩
   ·intro u w10 hb10 hd
    refine mB hb10 ?_;intro hc10 hf10 hz10;intros
    refine mH ?_;clear hd
    generalize u 0=u0
    generalize u 1=u1
    generalize u 2=u2
    generalize u 3=u3
    generalize u 4=u4
    generalize u 5=u5
    generalize u 6=u6
    generalize u 7=u7
    ((try simp only [forall_exists_index,and_imp]);intros)
    (try subst u0)
    (try subst u1)
    (try subst u2)
    (try subst u3)
    (try subst u4)
    (try subst u5)
    (try subst u6)
    (try subst u7)
    clear u
    go_wp2_with (first|(go_at_call 74;(with_reducible refine (LK.out _ hb10).mono ?_);rintro e wy ⟨rfl,hby⟩))
    exact ⟨rfl,by exact below_auto,rfl⟩
   ·intro u w10 hb10 hd
    refine mB hb10 ?_;intro hc10 hf10 hz10;intros
    refine mH ?_;clear hd
    generalize u 0=u0
    generalize u 1=u1
    generalize u 2=u2
    generalize u 3=u3
    generalize u 4=u4
    generalize u 5=u5
    generalize u 6=u6
    generalize u 7=u7
    generalize u 8=u8
    ((try simp only [forall_exists_index,and_imp]);intros)
    (try subst u0)
    (try subst u1)
    (try subst u2)
    (try subst u3)
    (try subst u4)
    (try subst u5)
    (try subst u6)
    (try subst u7)
    (try subst u8)
    clear u
    go_wp2_with (first|(go_at_call 74;(with_reducible refine (LK.out _ hb10).mono ?_);rintro e wy ⟨rfl,hby⟩))
    exact ⟨rfl,by exact below_auto,rfl⟩
   ·intro u w10 hb10 hd
    refine mB hb10 ?_;intro hc10 hf10 hz10;intros
    refine mH ?_;clear hd
    generalize u 0=u0
    generalize u 1=u1
    generalize u 2=u2
    generalize u 3=u3
    generalize u 4=u4
    generalize u 5=u5
    generalize u 6=u6
    generalize u 7=u7
    generalize u 8=u8
    generalize u 9=u9
    ((try simp only [forall_exists_index,and_imp]);intros)
    (try subst u0)
    (try subst u1)
    (try subst u2)
    (try subst u3)
    (try subst u4)
    (try subst u5)
    (try subst u6)
    (try subst u7)
    (try subst u8)
    (try subst u9)
    clear u
    go_wp2_with (first|(go_at_call 74;(with_reducible refine (LK.out _ hb10).mono ?_);rintro e wy ⟨rfl,hby⟩))
    exact ⟨rfl,by exact below_auto,rfl⟩
   ·intro u w10 hb10 hd
    refine mB hb10 ?_;intro hc10 hf10 hz10;intros
    refine mH ?_;clear hd
    generalize u 0=u0
    generalize u 1=u1
    generalize u 2=u2
    generalize u 3=u3
    generalize u 4=u4
    generalize u 5=u5
    generalize u 6=u6
    generalize u 7=u7
    generalize u 8=u8
    generalize u 9=u9
    generalize u 10=u10
    ((try simp only [forall_exists_index,and_imp]);intros)
    (try subst u0)
    (try subst u1)
    (try subst u2)
    (try subst u3)
    (try subst u4)
    (try subst u5)
    (try subst u6)
    (try subst u7)
    (try subst u8)
    (try subst u9)
    (try subst u10)
    clear u
    go_wp2_with (first|(go_at_call 74;(with_reducible refine (LK.out _ hb10).mono ?_);rintro e wy ⟨rfl,hby⟩))
    exact ⟨rfl,by exact below_auto,rfl⟩
   ·intro u w10 hb10 hd
    refine mB hb10 ?_;intro hc10 hf10 hz10;intros
    refine mH ?_;clear hd
    generalize u 0=u0
    generalize u 1=u1
    generalize u 2=u2
    generalize u 3=u3
    generalize u 4=u4
    generalize u 5=u5
    generalize u 6=u6
    generalize u 7=u7
    generalize u 8=u8
    generalize u 9=u9
    generalize u 10=u10
    generalize u 11=u11
    ((try simp only [forall_exists_index,and_imp]);intros)
    (try subst u0)
    (try subst u1)
    (try subst u2)
    (try subst u3)
    (try subst u4)
    (try subst u5)
    (try subst u6)
    (try subst u7)
    (try subst u8)
    (try subst u9)
    (try subst u10)
    (try subst u11)
    clear u
    go_wp2_with (first|(go_at_call 74;(with_reducible refine (LK.out _ hb10).mono ?_);rintro e wy ⟨rfl,hby⟩))
    exact ⟨rfl,by exact below_auto,w10.heap.size,rfl,Nat.le_refl _,by simp,by simp [cellsAre,go_sem]⟩
  intro u w10 hb10 hph hap
  refine mB hb10 ?_;intro hc10 hf10 hz10;intros
  have hp0:=hph 0 (by simp)
  have hp1:=hph 1 (by simp)
  have hp2:=hph 2 (by simp)
  have hp3:=hph 3 (by simp)
  have hp4:=hph 4 (by simp)
  have hp5:=hph 5 (by simp)
  have hp6:=hph 6 (by simp)
  have hp7:=hph 7 (by simp)
  have hp8:=hph 8 (by simp)
  have hp9:=hph 9 (by simp)
  have hp10:=hph 10 (by simp)
  have hp11:=hph 11 (by simp)
  have hp12:=hph 12 (by simp)
  clear hph hap
  simp only [List.length_cons,List.length_nil,List.take_succ_cons,List.take_zero,List.drop_succ_cons,List.drop_zero,List.cons_append,List.nil_append,putsFrom,putsBut,Act.put,qA,qB,qC,Nat.zero_add,Nat.reduceAdd,Nat.reduceEqDiff,if_true,if_false,reduceIte,Nat.zero_ne_one,Nat.one_ne_zero]
  generalize u 0=u0 at *
  generalize u 1=u1 at *
  generalize u 2=u2 at *
  generalize u 3=u3 at *
  generalize u 4=u4 at *
  generalize u 5=u5 at *
  generalize u 6=u6 at *
  generalize u 7=u7 at *
  generalize u 8=u8 at *
  generalize u 9=u9 at *
  generalize u 10=u10 at *
  generalize u 11=u11 at *
  generalize u 12=u12 at *
  clear u
  cases hp0
  cases hp1
  cases hp2
  cases hp3
  cases hp4
  cases hp5
  cases hp6
  cases hp7
  cases hp8
  cases hp9
  cases hp10
  cases hp11
  obtain ⟨B12,rfl,hl12,hg12,hs12⟩:=hp12
  (try simp only [cellsAre,and_true] at hs12)
  rotate_left
  intro u w10 hb10 hph hap
  refine mB hb10 ?_;intro hc10 hf10 hz10;intros
  have hp0:=hph 0 (by simp) (by decide)
  have hp1:=hph 1 (by simp) (by decide)
  have hp2:=hph 2 (by simp) (by decide)
  have hp3:=hph 3 (by simp) (by decide)
  have hp4:=hph 4 (by simp) (by decide)
  have hp5:=hph 5 (by simp) (by decide)
  have hp6:=hph 6 (by simp) (by decide)
  have hp7:=hph 7 (by simp) (by decide)
  have hp8:=hph 8 (by simp) (by decide)
  have hp9:=hph 9 (by simp) (by decide)
  have hp10:=hph 10 (by simp) (by decide)
  have hp12:=hph 12 (by simp) (by decide)
  clear hph hap
  simp only [List.length_cons,List.length_nil,List.take_succ_cons,List.take_zero,List.drop_succ_cons,List.drop_zero,List.cons_append,List.nil_append,putsFrom,putsBut,Act.put,qA,qB,qC,Nat.zero_add,Nat.reduceAdd,Nat.reduceEqDiff,if_true,if_false,reduceIte,Nat.zero_ne_one,Nat.one_ne_zero]
  generalize u 0=u0 at *
  generalize u 1=u1 at *
  generalize u 2=u2 at *
  generalize u 3=u3 at *
  generalize u 4=u4 at *
  generalize u 5=u5 at *
  generalize u 6=u6 at *
  generalize u 7=u7 at *
  generalize u 8=u8 at *
  generalize u 9=u9 at *
  generalize u 10=u10 at *
  generalize u 12=u12 at *
  clear u
  cases hp0
  cases hp1
  cases hp2
  cases hp3
  cases hp4
  cases hp5
  cases hp6
  cases hp7
  cases hp8
  cases hp9
  cases hp10
  obtain ⟨B12,rfl,hl12,hg12,hs12⟩:=hp12
  (try simp only [cellsAre,and_true] at hs12)
  rotate_left
  all_goals
   simp only [Nat.zero_add] at hs12
   obtain ⟨hs0,hf0,hs1,hf1⟩:=hs12
   go_upto_region 11 with fail
   have hb11:Below w6.heap.size w6 ((w10.setCell ⟨B12,0,none⟩ (.int .i64 l1)).setCell ⟨B12,1,none⟩ (.int .i64 l2)):=by exact below_auto
   have v0:((w10.setCell ⟨B12,0,none⟩ (.int .i64 l1)).setCell ⟨B12,1,none⟩ (.int .i64 l2)).cell? ⟨B12,0,none⟩=some (.int .i64 l1):=by simp [go_sem,hs0,hs1,hf0,hf1]
   have v1:((w10.setCell ⟨B12,0,none⟩ (.int .i64 l1)).setCell ⟨B12,1,none⟩ (.int .i64 l2)).cell? ⟨B12,1,none⟩=some (.int .i64 l2):=by simp [go_sem,hs0,hs1,hf0,hf1]
   have hg11:B12<((w10.setCell ⟨B12,0,none⟩ (.int .i64 l1)).setCell ⟨B12,1,none⟩ (.int .i64 l2)).heap.size:=by simpa using hg12
   generalize (w10.setCell ⟨B12,0,none⟩ (.int .i64 l1)).setCell ⟨B12,1,none⟩ (.int .i64 l2)=w11 at *
   have hb03:=HB6.out.trans (hb11.mono HB6.out.size)
   have hM11:=HM6.out.below hb11
   have hF11:=HF3.out.trans (FrM.of_below (s3.own T) hb03)
   have q5:=(hb11.block _ (Array.getElem?_eq_some_iff.1 HQ5.out).1).trans HQ5.out
   have q6:=(hb11.block _ (Array.getElem?_eq_some_iff.1 HQ6.out).1).trans HQ6.out
   have q1:=(hb11.block _ (Array.getElem?_eq_some_iff.1 HQ61.out).1).trans HQ61.out
   have HM11:=hid hM11;have HF11:=hid hF11;have HQ1':=hid q1;have HQ6':=hid q6;have HQ5':=hid q5
   have HXA11:=hid (HXA.out.below hb11)
   obtain ⟨⟨y0,y1,y2,y3,y4⟩,⟨e0,e1,e2,e3,e4⟩,yl⟩:=box5 q1
   obtain ⟨⟨a0,a1,a2,a3,a4⟩,⟨f0,f1,f2,f3,f4⟩,al⟩:=box5 q6
   have hRA:w.heap.size+1≠A:=fun e=>by have:=HZW.out;have:=HAS.out;omega
   have HRA:=hid hRA
   have hRl:w.heap.size+1<w11.heap.size:=yl
   clear hb11 hs0 hs1 hf0 hf1 hg12 hl12 hb10 hc10 hf10 hz10 hb03 hM11 hF11 q5 t0 t1 t2 t3 t4 t5 tl ml ms1 LK
   by_cases hl5:lc=5
   ·subst hl5
    have HF:=hid (show ∀ X W,w11.grownBy X (some A)→X.grownBy W (some (w.heap.size+1))→ApRet B T s r w (.returned (.tuple #[.agg #[.int .i64 x.s0,.int .i64 x.s1,.int .i64 l1,.int .i64 l2,.bool false],.int .i64 0])) W from fun X W g1 g2=>by
     have hr:r=(⟨s.d.c,s.d.t,ix⟩,⟨d.1,d.2.1,l1,l2,false⟩,0):=by rw [HR3.out,if_pos rfl]
     have hMX:=HM11.out.keep g1.size fun k hk h0=>g1.block k hk fun e=>HFR.out k (by cases e;have:=HAS.out;have:=HB6.out.size;have:=HZW.out;omega) h0
     have hFX:FrM (s.own T) (s3.own T) w X:=⟨g1.os.trans HF11.out.os,g1.tape.trans HF11.out.tape,g1.output.trans HF11.out.output,Nat.le_trans HF11.out.size g1.size,fun k hk h0=>(g1.block k (Nat.lt_of_lt_of_le hk HF11.out.size) fun e=>by cases e;have:=HAS.out;have:=HZW.out;omega).trans (HF11.out.block k hk h0),HF11.out.own⟩
     have:=ap_fin (r:=r) hMX hFX (by rw [hr];exact HD3.out) HK3.out (R:=w.heap.size+1) ⟨by omega,HFR.out _ (by omega)⟩ g2
     rw [hr] at this ⊢
     rw [HE.out.1,HE.out.2];exact this)
    obtain ⟨qa,ga⟩:=set23 q6 (.int .i64 l1) (.int .i64 l2)
    clear q1 q6
    go_upto_region 18 with fail
    generalize (w11.setCell ⟨A,2,none⟩ (.int .i64 l1)).setCell ⟨A,3,none⟩ (.int .i64 l2)=X at *
    have q1:=(ga.block _ hRl fun e=>hRA (Option.some.inj e)).trans HQ1'.out
    have HGA:=hid ga
    clear ga a0 a1 a2 a3 a4 f0 f1 f2 f3 f4 al y0 y1 y2 y3 y4 e0 e1 e2 e3 e4 yl v0 v1 hg11 hRl
    obtain ⟨⟨y0,y1,y2,y3,y4⟩,⟨e0,e1,e2,e3,e4⟩,yl⟩:=box5 q1
    obtain ⟨⟨a0,a1,a2,a3,a4⟩,-,al⟩:=box5 qa
    have HG:=hid (set5 q1 (.int .i64 x.s0) (.int .i64 x.s1) (.int .i64 l1) (.int .i64 l2) (.bool false))
    clear q1 qa
    go_wp2_with fail
    refine bodyPost_ret (v:=.tuple #[.agg #[.int .i64 x.s0,.int .i64 x.s1,.int .i64 l1,.int .i64 l2,.bool false],.int .i64 0]) (by simp [results,Tryz.results25,go_sem, *]) rfl ?_
    exact HF.out _ _ HGA.out HG.out
   ·by_cases hl0:lc=0
    rotate_left
    ·have HF:=hid (show ∀ X W,w11.grownBy X (some A)→X.grownBy W (some (w.heap.size+1))→ApRet B T s r w (.returned (.tuple #[.agg #[.int .i64 x.s0,.int .i64 x.s1,.int .i64 lc,.int .i64 0,.bool false],.int .i64 0])) W from fun X W g1 g2=>by
      have hr:r=(⟨s.d.c,s.d.t,ix⟩,⟨d.1,d.2.1,lc,0,false⟩,0):=by rw [HR3.out,if_neg hl5,if_neg hl0]
      have hMX:=HM11.out.keep g1.size fun k hk h0=>g1.block k hk fun e=>HFR.out k (by cases e;have:=HAS.out;have:=HB6.out.size;have:=HZW.out;omega) h0
      have hFX:FrM (s.own T) (s3.own T) w X:=⟨g1.os.trans HF11.out.os,g1.tape.trans HF11.out.tape,g1.output.trans HF11.out.output,Nat.le_trans HF11.out.size g1.size,fun k hk h0=>(g1.block k (Nat.lt_of_lt_of_le hk HF11.out.size) fun e=>by cases e;have:=HAS.out;have:=HZW.out;omega).trans (HF11.out.block k hk h0),HF11.out.own⟩
      have:=ap_fin (r:=r) hMX hFX (by rw [hr];exact HD3.out) HK3.out (R:=w.heap.size+1) ⟨by omega,HFR.out _ (by omega)⟩ g2
      rw [hr] at this ⊢
      rw [HE.out.1,HE.out.2];exact this)
     have hlb5:(lc == 5)=false:=by simpa using hl5
     have hlb0:(lc == 0)=false:=by simpa using hl0
     obtain ⟨qa,ga⟩:=K.set1 (i:=2) q6 (.int .i64 lc)
     clear q1 q6
     go_upto_region 18 with fail
     generalize w11.setCell ⟨A,2,none⟩ (.int .i64 lc)=X at *
     have q1:=(ga.block _ hRl fun e=>hRA (Option.some.inj e)).trans HQ1'.out
     have HGA:=hid ga
     clear ga a0 a1 a2 a3 a4 f0 f1 f2 f3 f4 al y0 y1 y2 y3 y4 e0 e1 e2 e3 e4 yl v0 v1 hg11 hRl
     have qa:X.heap[A]? = some (.cells #[.int .i64 x.s0,.int .i64 x.s1,.int .i64 lc,.int .i64 0,.bool false] 70 (0,0)):=qa
     obtain ⟨⟨y0,y1,y2,y3,y4⟩,⟨e0,e1,e2,e3,e4⟩,yl⟩:=box5 q1
     obtain ⟨⟨a0,a1,a2,a3,a4⟩,-,al⟩:=box5 qa
     have HG:=hid (set5 q1 (.int .i64 x.s0) (.int .i64 x.s1) (.int .i64 lc) (.int .i64 0) (.bool false))
     clear q1 qa
     go_wp2_with fail
     refine bodyPost_ret (v:=.tuple #[.agg #[.int .i64 x.s0,.int .i64 x.s1,.int .i64 lc,.int .i64 0,.bool false],.int .i64 0]) (by simp [results,Tryz.results25,go_sem, *]) rfl ?_
     exact HF.out _ _ HGA.out HG.out
    subst hl0
    go_upto_region 16 with fail
    have hr:r=(⟨stepC s.d.c (ofD d) 0,putR s.d.t d.1 ⟨d.2.1,codeD s.d.c (ofD d) 0,numC s.d.c (ofD d) 0⟩,ix⟩,⟨d.1,d.2.1,codeD s.d.c (ofD d) 0,numC s.d.c (ofD d) 0,true⟩,0):=by rw [HR3.out,if_neg (by decide),if_pos rfl]
    have HRR:=hid hr
    obtain ⟨Y0,hY0⟩:∃ Y:World,Y = { w11 with drawn:=w11.drawn+1 }:=⟨_,rfl⟩
    have hb0:Below w11.heap.size w11 Y0:=by rw [hY0];exact Below.drew (Below.refl _ _)
    have hMY:=HM11.out.below hb0
    have D1:=hid (mDec_any hMY (HXA11.out.below hb0) (fun p hp k e=>Classical.byContradiction fun h0=>by
     have h1:=HXB.out p hp
     have h2:=(HM3.out.cert.low k h0).2
     omega) HSX'.out HCK.out)
    have e3:s3.d.c=s.d.c:=by rw [HD3.out]
    have e4:s3.d.t=s.d.t:=by rw [HD3.out]
    have e5:s3.ix=ix:=congrArg MD.ix HD3.out
    rw [e3,e4,e5] at D1
    obtain ⟨cd,hcd⟩:∃ v,v=codeD s.d.c (ofD d) 0:=⟨_,rfl⟩
    obtain ⟨nm,hnm⟩:∃ v,v=numC s.d.c (ofD d) 0:=⟨_,rfl⟩
    rw [←hcd,←hnm] at D1 HRR
    obtain ⟨Q,hQ⟩:∃ Q,Q=DcP B T s3 Y0 ⟨stepC s.d.c (ofD d) 0,s.d.t,ix⟩:=⟨_,rfl⟩
    rw [←hQ] at D1
    have HQ:=hid hQ
    have HQA:=hid (show ∀ X,Q X→X.heap[A]? = some (.cells #[.int .i64 x.s0,.int .i64 x.s1,.int .i64 0,.int .i64 0,.bool false] 70 (0,0)) from fun X hX=>by
     rw [hQ] at hX
     obtain ⟨s',_,f,_⟩:=hX
     have hAY:A<Y0.heap.size:=Nat.lt_of_lt_of_le al hb0.size
     exact (f.block A hAY (HFR.out A (by have:=HAS.out;have:=HZW.out;omega))).trans ((hb0.block A al).trans HQ6'.out))
    have HTY:=hid hMY.box
    have HSY:=hid ((hb0.block S (Array.getElem?_eq_some_iff.1 HQ5'.out).1).trans HQ5'.out)
    have HFY:=hid (HF11.out.trans (FrM.of_below (s3.own T) hb0))
    have HRY:=hid ((hb0.block _ hRl).trans HQ1'.out)
    have HY0:=hid hY0
    clear hr hY0 hb0 hMY e3 e4 e5 hcd hnm hQ a0 a1 a2 a3 a4 f0 f1 f2 f3 f4 al y0 y1 y2 y3 y4 e0 e1 e2 yl v0 v1 hg11 hRl q1 q6 HXA11 HSX' HR3
    refine wp_region_chainV [(0,fun _=>.pointer (some ⟨T,0,none⟩)),(0,fun _=>.pointer (some ⟨T,0,none⟩)),(0,fun _=>.pointer (some ⟨T,0,none⟩)),(0,fun _=>.pointer (some ⟨s3.tc,0,none⟩)),(0,fun _=>.agg #[.int .i64 x.s0,.int .i64 x.s1,.int .i64 x.s2,.slice x.ra x.rs.length x.rc,.slice x.sa x.ss.length x.sc,.slice x.wa x.ws.length x.wc]),(1,fun ms=>ms.getD 0 undef),(0,fun _=>.pointer (some ⟨A,2,none⟩)),(2,fun _=>undef),(0,fun _=>.pointer (some ⟨A,4,none⟩)),(3,fun _=>undef)] (DcR Y0 A cd nm Q) (fun _ _=>False) [5,7,9] rfl (by kernel_rfl) (by kernel_rfl) (by kernel_rfl) (by decide) (by decide) HY0.out.symm ?_ ?_ ?_
    ·simp only [StepsV,List.nil_append,List.cons_append,Nat.zero_add,Nat.reduceAdd]
     refine ⟨?_,?_,?_,?_,?_,?_,?_,?_,?_,?_,trivial⟩
     ·skip
      intro ms X g1 g2 hx
      refine mM ?_
      generalize hR:(fun v w'=>(_→v=_)∧_)=RR
      have HR:=hid hR
      have HXX:=hid hx
      clear hR g1 g2 hx
      try refine mV ?_
      go_wp2_with fail
      have hR:=HR.out
      subst hR
      exact ⟨rfl,fun _=>rfl,HXX.out⟩
     ·skip
      intro ms X g1 g2 hx
      refine mM ?_
      generalize hR:(fun v w'=>(_→v=_)∧_)=RR
      have HR:=hid hR
      have HXX:=hid hx
      clear hR g1 g2 hx
      try refine mV ?_
      go_wp2_with fail
      have hR:=HR.out
      subst hR
      exact ⟨rfl,fun _=>rfl,HXX.out⟩
     ·skip
      intro ms X g1 g2 hx
      refine mM ?_
      generalize hR:(fun v w'=>(_→v=_)∧_)=RR
      have HR:=hid hR
      have HXX:=hid hx
      clear hR g1 g2 hx
      try refine mV ?_
      go_wp2_with fail
      have hR:=HR.out
      subst hR
      exact ⟨rfl,fun _=>rfl,HXX.out⟩
     ·skip
      intro ms X g1 g2 hx
      have hl1:ms.length=0:=Nat.le_zero.1 (Nat.le_trans g2 (by decide +kernel))
      obtain rfl:=List.eq_nil_of_length_eq_zero hl1
      have bx:X.heap[T]? = _:=(show X=Y0 from hx) ▸ HTY.out
      obtain ⟨b0,-,-,-,bl⟩:=box3 bx
      refine mM ?_
      generalize hR:(fun v w'=>(_→v=_)∧_)=RR
      have HR:=hid hR
      have HXX:=hid hx
      clear hR g1 g2 hx bx hl1
      try refine mV ?_
      go_wp2_with fail
      have hR:=HR.out
      subst hR
      exact ⟨rfl,fun _=>rfl,HXX.out⟩
     ·skip
      intro ms X g1 g2 hx
      have hl1:ms.length=0:=Nat.le_zero.1 (Nat.le_trans g2 (by decide +kernel))
      obtain rfl:=List.eq_nil_of_length_eq_zero hl1
      have bx:X.heap[S]? = _:=(show X=Y0 from hx) ▸ HSY.out
      obtain ⟨t0,t1,t2,t3,t4,t5⟩:=P.box6 bx
      have tl:=(Array.getElem?_eq_some_iff.1 bx).1
      refine mM ?_
      generalize hR:(fun v w'=>(_→v=_)∧_)=RR
      have HR:=hid hR
      have HXX:=hid hx
      clear hR g1 g2 hx bx hl1
      try refine mV ?_
      go_wp2_with fail
      have hR:=HR.out
      subst hR
      exact ⟨rfl,fun _=>rfl,HXX.out⟩
     ·skip
      intro ms X g1 g2 hx
      have hl:ms.length=0:=Nat.le_antisymm (Nat.le_trans g2 (by decide +kernel)) (Nat.le_trans (by decide +kernel) g1)
      obtain rfl:=P.ls0 hl
      obtain rfl:X=Y0:=hx
      refine mM ?_
      generalize hR:(fun v w'=>(_→v=_)∧_)=RR
      have HR:=hid hR
      clear hR g1 g2 hl
      refine mV ?_
      have HC:=hid (D1.out)
      go_wp2_with fail
      refine HC.out.mono ?_
      rintro e X2 ⟨rfl,h1⟩
      have HE:Hid (DcR X A cd nm Q [.agg #[.int .i64 cd,.int .i64 nm]] X2):=hid (⟨rfl,h1⟩)
      clear HC
      go_wp2_with fail
      have hR:=HR.out
      subst hR
      exact ⟨rfl,fun _=>rfl,HE.out⟩
     ·skip
      intro ms X g1 g2 hx
      refine mM ?_
      generalize hR:(fun v w'=>(_→v=_)∧_)=RR
      have HR:=hid hR
      have HXX:=hid hx
      clear hR g1 g2 hx
      try refine mV ?_
      go_wp2_with fail
      have hR:=HR.out
      subst hR
      exact ⟨rfl,fun _=>rfl,HXX.out⟩
     ·skip
      intro ms X g1 g2 hx
      have hlk:ms.length=1:=Nat.le_antisymm (Nat.le_trans g2 (by decide +kernel)) (Nat.le_trans (by decide +kernel) g1)
      obtain ⟨v0,rfl⟩:=ls1 hlk
      obtain ⟨rfl,hq⟩:=hx
      obtain ⟨⟨-,-,a2,a3,-⟩,⟨-,-,f2,f3,-⟩,al⟩:=box5 (HQA.out X hq)
      refine mM ?_
      generalize hR:(fun v w'=>(_→v=_)∧_)=RR
      have HR2:=hid hR
      clear hR g1 g2 hlk
      refine mV ?_
      have HE':Hid (DcR Y0 A cd nm Q [.agg #[.int .i64 cd,.int .i64 nm],undef] ((X.setCell ⟨A,2,none⟩ (.int .i64 cd)).setCell ⟨A,3,none⟩ (.int .i64 nm))):=hid ⟨X,hq,rfl⟩
      clear hq
      go_wp2_with fail
      have hR:=HR2.out
      subst hR
      exact ⟨rfl,fun h=>absurd rfl h,HE'.out⟩
     ·skip
      intro ms X g1 g2 hx
      refine mM ?_
      generalize hR:(fun v w'=>(_→v=_)∧_)=RR
      have HR:=hid hR
      have HXX:=hid hx
      clear hR g1 g2 hx
      try refine mV ?_
      go_wp2_with fail
      have hR:=HR.out
      subst hR
      exact ⟨rfl,fun _=>rfl,HXX.out⟩
     ·skip
      intro ms X g1 g2 hx
      have hlk:ms.length=2:=Nat.le_antisymm (Nat.le_trans g2 (by decide +kernel)) (Nat.le_trans (by decide +kernel) g1)
      obtain ⟨v0,v1,rfl⟩:=ls2 hlk
      obtain ⟨X1,hq,hX⟩:=hx
      obtain ⟨⟨-,-,-,-,a4⟩,⟨-,-,-,-,f4⟩,al⟩:=box5 (w:=X) (by rw [hX];exact (set23 (HQA.out X1 hq) (.int .i64 cd) (.int .i64 nm)).1)
      refine mM ?_
      generalize hR:(fun v w'=>(_→v=_)∧_)=RR
      have HR2:=hid hR
      clear hR g1 g2 hlk
      refine mV ?_
      have HE':Hid (DcR Y0 A cd nm Q [v0,v1,undef] (X.setCell ⟨A,4,none⟩ (.bool true))):=hid ⟨X1,hq,by rw [hX]⟩
      clear hq hX
      go_wp2_with fail
      have hR:=HR2.out
      subst hR
      exact ⟨rfl,fun h=>absurd rfl h,HE'.out⟩
    ·intro ms X hl hx
     obtain ⟨v0,v1,v2,rfl⟩:=ls3 hl
     obtain ⟨X1,hq,hX⟩:=hx
     refine mV ?_
     rw [HQ.out] at hq
     obtain ⟨s',hM',hF',hd',hk1,hk2⟩:=hq
     obtain ⟨qa0,ga0⟩:=set23 (HQA.out X1 (by rw [HQ.out];exact ⟨s',hM',hF',hd',hk1,hk2⟩)) (.int .i64 cd) (.int .i64 nm)
     obtain ⟨qa,ga1⟩:=K.set1 (i:=4) qa0 (.bool true)
     have ga:=ga0.trans ga1
     rw [←hX] at qa ga
     have qa:X.heap[A]? = some (.cells #[.int .i64 x.s0,.int .i64 x.s1,.int .i64 cd,.int .i64 nm,.bool true] 70 (0,0)):=qa
     have hsA:=HAS.out
     have hzw:=HZW.out
     have nf:∀ k,w.heap.size≤k→k<Y0.heap.size→¬s'.own T k:=fun k hk hk2 h0=>HFR.out k hk ((hF'.own k hk2).1 h0)
     have lS:=(Array.getElem?_eq_some_iff.1 HSY.out).1
     have lR:=(Array.getElem?_eq_some_iff.1 HRY.out).1
     have lX:=hF'.size
     have lA:A<Y0.heap.size:=by
      have h1:=(Array.getElem?_eq_some_iff.1 HQ6'.out).1
      have h2:=HY0.out
      rw [h2];exact h1
     have qs:=(ga.block S (by omega) fun e=>by have:=Option.some.inj e;omega).trans ((hF'.block S lS (HFR.out S (by omega))).trans HSY.out)
     have q1:=(ga.block _ (by omega) fun e=>HRA.out (Option.some.inj e)).trans ((hF'.block _ lR (HFR.out _ (by omega))).trans HRY.out)
     have hMX:=hM'.keep ga.size fun k hk h0=>ga.block k hk fun e=>by cases e;exact nf A (by omega) lA h0
     have hFX:FrM (s.own T) (s'.own T) w X:=by
      have f:=HFY.out.trans hF'
      exact ⟨ga.os.trans f.os,ga.tape.trans f.tape,ga.output.trans f.output,Nat.le_trans f.size ga.size,fun k hk h0=>(ga.block k (Nat.lt_of_lt_of_le hk f.size) fun e=>by cases e;omega).trans (f.block k hk h0),f.own⟩
     have hnf:¬s'.own T A∧¬s'.own T (w.heap.size+1):=⟨nf A (by omega) lA,nf _ (by omega) lR⟩
     have HMX:=hid hMX;have HFX:=hid hFX;have HNF:=hid hnf;have HD':=hid hd';have HKK:=hid (And.intro (hk1.trans HK3.out.1) (hk2.trans HK3.out.2))
     have HQA2:=hid qa;have HQ12:=hid q1
     obtain ⟨-,m1,-,-,ml⟩:=box3 hMX.box
     obtain ⟨t0,t1,-,-,-,-⟩:=P.box6 qs
     have tl:=(Array.getElem?_eq_some_iff.1 qs).1
     obtain ⟨⟨-,-,a2,a3,-⟩,-,al⟩:=box5 qa
     have hns0:-9223372036854775808≤x.s0∧x.s0≤9223372036854775807:=by
      obtain ⟨D0,_⟩:=P.right_D HCK.out |>.1
      unfold P.NumD at D0;simp only [P.toD_ofD] at D0
      rw [HE.out.1];omega
     have HNS:=hid hns0
     clear hl hX hM' hF' hd' hk1 hk2 qa0 ga0 ga1 ga qa q1 qs nf lS lR lX lA hMX hFX hnf hsA hzw hns0 D1 HQA HTY HSY HFY HRY HY0 HQ6' HQ5' HM11 HF11 HM6
     go_upto_region 17 with fail
     (refine wp_region_ext_tail 10 (by kernel_rfl) (by kernel_rfl) (by kernel_rfl) ?_;simp only [List.take_succ_cons,List.take_zero,List.drop_succ_cons,List.drop_zero];(repeat (go_big_quiet_step (first|fail)));refine mX ?_;intro w17 hb17 hc17 hf17 hz17;intros)
     have hM17:=HMX.out.below hb17
     have PUT:=hid (put_any hM17.sess hM17.inv x.s0 ⟨x.s1,cd,nm⟩ HNS.out)
     have HM17:=hid hM17
     have HB17:=hid hb17
     clear m1 ml t0 t1 tl a2 a3 al hM17 hb17 hc17 hf17 hz17
     go_upto_region 18 with (go_at_call 75;(with_reducible refine PUT.out.mono ?_);rintro e w18 ⟨rfl,os',o2',hS',hd2,hf2⟩)
     obtain ⟨hM18,hF18⟩:=HM17.out.sess' hS' hf2 (by rw [hd2];exact inv_putR HM17.out.inv _ _)
     have lA:=(Array.getElem?_eq_some_iff.1 HQA2.out).1
     have lR:=(Array.getElem?_eq_some_iff.1 HQ12.out).1
     have l17:=HB17.out.size
     have qa:=(hF18.block A (by omega) HNF.out.1).trans ((HB17.out.block A lA).trans HQA2.out)
     have q1:=(hF18.block _ (by omega) HNF.out.2).trans ((HB17.out.block _ lR).trans HQ12.out)
     have hFin:=HFX.out.trans ((FrM.of_below (s'.own T) HB17.out).trans hF18)
     have hnR:¬({ s' with os:=os',o2:=o2' }:MS).own T (w.heap.size+1):=fun h0=>HNF.out.2 ((hF18.own _ (by omega)).1 h0)
     have HF:=hid (show ∀ W,w18.grownBy W (some (w.heap.size+1))→ApRet B T s r w (.returned (.tuple #[.agg #[.int .i64 x.s0,.int .i64 x.s1,.int .i64 cd,.int .i64 nm,.bool true],.int .i64 0])) W from fun W g=>by
      have hr:=HRR.out
      have hdd:({ s' with os:=os',o2:=o2' }:MS).d=r.1:=by
       rw [hr]
       have h1:=congrArg MD.c HD'.out
       have h2:=congrArg MD.t HD'.out
       have h3:=congrArg MD.ix HD'.out
       show (⟨CL.n s'.c,os'.map SL.d,s'.ix⟩:MD)=_
       have h4:CL.n s'.c=stepC s.d.c (ofD d) 0:=h1
       have h5:s'.os.map SL.d=s.d.t:=h2
       have h6:s'.ix=ix:=h3
       rw [h4,h6,hd2,h5,HE.out.1,HE.out.2]
      have:=ap_fin (r:=r) hM18 hFin hdd HKK.out (R:=w.heap.size+1) ⟨by omega,hnR⟩ g
      rw [hr] at this ⊢
      rw [HE.out.1,HE.out.2];exact this)
     clear hM18 hF18 hS' hd2 hf2 lA lR l17 hFin hnR
     obtain ⟨⟨y0,y1,y2,y3,y4⟩,⟨e0,e1,e2,e3,e4⟩,yl⟩:=box5 q1
     obtain ⟨⟨a0,a1,a2,a3,a4⟩,-,al⟩:=box5 qa
     have HG:=hid (set5 q1 (.int .i64 x.s0) (.int .i64 x.s1) (.int .i64 cd) (.int .i64 nm) (.bool true))
     clear q1 qa
     go_wp2_with fail
     refine bodyPost_ret (v:=.tuple #[.agg #[.int .i64 x.s0,.int .i64 x.s1,.int .i64 cd,.int .i64 nm,.bool true],.int .i64 0]) (by simp [results,Tryz.results25,go_sem, *]) rfl ?_
     exact HF.out _ HG.out
    ·exact fun _ _ _ _ h=>h.elim

end Go.Proofs.YtdeeoddacnealaaGreat.M