/- Several texts as one: ZD ZE ZF ZG. -/
import Derived.Test.YtdeeoddacnealaaGreatMZA
import Derived.Test.YtdeeoddacnealaaGreatMPY
import Derived.Test.YtdeeoddacnealaaGreatMCW
import Derived.Test.YtdeeoddacnealaaGreatMNI
import Derived.Deep.CutRange
set_option linter.unusedVariables false
set_option linter.unusedSimpArgs false
namespace Go.Proofs.YtdeeoddacnealaaGreat.M
open Go.RowKit Fl Go.Maps
open Go.Proofs.YtdeeoddacnealaaGreat.Z
open Go.Proofs.YtdeeoddacnealaaGreat.C (snapV snapV_at set6)
open Go.Proofs.YtdeeoddacnealaaGreat.P (BelowB BRet docB docBytes_gen NumD bCells own_bat ls0 ls1 ls2 ls3)

structure OpV where
 x:SubV
 raw:Bool
 kind:Int
 a:Option Addr
 c:Nat
 bs:List Nat
 gap:Int
structure OpV.At (o:OpV) (B:Nat) (w:World):Prop where
 x:o.x.At w
 num:NumD o.x.s0∧NumD o.x.s1∧NumD o.x.s2
 len:o.x.rs.length≤1048576∧o.x.ss.length≤1048576∧o.x.ws.length≤1048576
 dat:BelowB B w o.a o.c o.bs
theorem belowB_below {B:Nat} {w w':World} {a:Option Addr} {c:Nat} {bs:List Nat} (h:BelowB B w a c bs) (hB:B≤w.heap.size) (hb:Below B w w'):BelowB B w' a c bs:=by
 refine ⟨?_,h.lt,h.cap⟩
 rcases h.row with h1|⟨b,o,h1,h2,h3⟩
 ·exact .inl h1
 ·exact .inr ⟨b,o,h1,h2,fun i hi=>(hb.cell (p:=⟨b,o+i,none⟩) h2).trans (h3 i hi)⟩
theorem OpV.At.below {o:OpV} {B:Nat} {w w':World} (h:o.At B w) (hB:B≤w.heap.size) (hb:Below w.heap.size w w'):o.At B w':=⟨h.x.below hb,h.num,h.len,belowB_below h.dat hB (hb.mono hB)⟩
def EnAt (B:Nat) (ix kind:Int) (bs:List Nat) (w:World) (e:Ending) (w':World):Prop:=∃ (a:Option Addr) (c:Nat),e=.returned (.agg #[.int .i64 ix,.int .i64 0,.int .i64 kind,.slice a bs.length c])∧BelowB w'.heap.size w' a c bs∧(∀ p,a=some p→bs≠[]→p.block<B∨w.heap.size≤p.block)∧Below w.heap.size w w'
def EnR (Y0:World) (R:Nat) (ix:Int) (L:List Nat):List Value→World→Prop
 | [],X=>X=Y0
 | [v],X=>∃ a c,v=.slice a L.length c∧X.ownsRow Y0.heap.size 5 1 (.slice a L.length c) L.length (bCells L)∧Below Y0.heap.size Y0 X
 | v :: _,X=>∃ a c X1,v=.slice a L.length c∧X1.ownsRow Y0.heap.size 5 1 (.slice a L.length c) L.length (bCells L)∧Below Y0.heap.size Y0 X1∧X=(((X1.setCell ⟨R,0,none⟩ (.int .i64 ix)).setCell ⟨R,1,none⟩ (.int .i64 0)).setCell ⟨R,2,none⟩ (.int .i64 1)).setCell ⟨R,3,none⟩ (.slice a L.length c)
theorem EnR.kept {Y0 X:World} {R:Nat} {ix:Int} {L:List Nat} {ms:List Value} (h:EnR Y0 R ix L ms X) (hl:ms.length≤1) {k:Nat} (hk:k<Y0.heap.size):X.heap[k]? = Y0.heap[k]?:=by
 match ms,h with
 | [],h=>rw [show X=Y0 from h]
 | [_],⟨_,_,_,_,h⟩=>exact h.block k hk
 | _ :: _ :: _,_=>exact absurd hl (by simp)
theorem set4 {w:World} {b:Nat} {x0 x1 x2 x3:Value} {t:TypeId} (h:w.heap[b]? = some (.cells #[x0,x1,x2,x3] t (0,0))) (v0 v1 v2 v3:Value) :
  ((((w.setCell ⟨b,0,none⟩ v0).setCell ⟨b,1,none⟩ v1).setCell ⟨b,2,none⟩ v2).setCell ⟨b,3,none⟩ v3).heap[b]? = some (.cells #[v0,v1,v2,v3] t (0,0))∧w.grownBy ((((w.setCell ⟨b,0,none⟩ v0).setCell ⟨b,1,none⟩ v1).setCell ⟨b,2,none⟩ v2).setCell ⟨b,3,none⟩ v3) (some b):=by
 obtain ⟨q0,k0⟩:=K.set1 (i:=0) h v0
 obtain ⟨q1,k1⟩:=K.set1 (i:=1) q0 v1
 obtain ⟨q2,k2⟩:=K.set1 (i:=2) q1 v2
 obtain ⟨q3,k3⟩:=K.set1 (i:=3) q2 v3
 exact ⟨q3,((k0.trans k1).trans k2).trans k3⟩
theorem docB_byte (x:SubV):∀ y∈docB x,y<256:=by
 intro y hy
 unfold docB at hy
 simp only [List.mem_append,List.mem_flatMap] at hy
 rcases hy with (((((hy|hy)|hy)|hy)|hy)|⟨s,_,hy|hy⟩)|hy
 ·exact P.numB_byte _ y hy
 ·exact P.numB_byte _ y hy
 ·exact P.numB_byte _ y hy
 ·exact P.keysB_byte _ y hy
 ·exact P.numB_byte _ y hy
 ·exact P.keyB_byte _ y hy
 ·exact P.keyB_byte _ y hy
 ·exact P.keysB_byte _ y hy
theorem box10 {w:World} {b:Nat} {x0 x1 x2 x3 x4 x5 x6 x7 x8 x9:Value} {t:TypeId} (h:w.heap[b]? = some (.cells #[x0,x1,x2,x3,x4,x5,x6,x7,x8,x9] t (0,0))):(w.cell? ⟨b,0,none⟩=some x0∧w.cell? ⟨b,1,none⟩=some x1∧w.cell? ⟨b,2,none⟩=some x2∧w.cell? ⟨b,3,none⟩=some x3∧w.cell? ⟨b,4,none⟩=some x4)∧(w.cell? ⟨b,5,none⟩=some x5∧w.cell? ⟨b,6,none⟩=some x6∧w.cell? ⟨b,7,none⟩=some x7∧w.cell? ⟨b,8,none⟩=some x8∧w.cell? ⟨b,9,none⟩=some x9)∧b<w.heap.size :=
 ⟨⟨by rw [cell_row h];rfl,by rw [cell_row h];rfl,by rw [cell_row h];rfl,by rw [cell_row h];rfl,by rw [cell_row h];rfl⟩,⟨by rw [cell_row h];rfl,by rw [cell_row h];rfl,by rw [cell_row h];rfl,by rw [cell_row h];rfl,by rw [cell_row h];rfl⟩,(Array.getElem?_eq_some_iff.1 h).1⟩
theorem fz4 {w:World} {b:Nat} {x0 x1 x2 x3:Value} {t:TypeId} (h:w.heap[b]? = some (.cells #[x0,x1,x2,x3] t (0,0))):w.frozen? ⟨b,0,none⟩=false∧w.frozen? ⟨b,1,none⟩=false∧w.frozen? ⟨b,2,none⟩=false∧w.frozen? ⟨b,3,none⟩=false:=⟨by simp [World.frozen?,h],by simp [World.frozen?,h],by simp [World.frozen?,h],by simp [World.frozen?,h]⟩
set_option maxHeartbeats 4000000 in
set_option maxRecDepth 100000 in
theorem entry_at {B:Nat} {w:World} (o:OpV) (index count kd:Int) (L:List Nat) (h:o.At B w) (hB:B≤w.heap.size) (hc:0≤count∧count≤1099511627776) (hi:0≤index∧index≤4611686018427387904) (hr1:o.raw=true→kd=o.kind∧L=o.bs) (hr2:o.raw=false→kd=1∧L=docB (snapV o.x count)) :
  Calls Tryz.prog 26 #[.agg #[.int .i64 o.x.s0,.int .i64 o.x.s1,.int .i64 o.x.s2,.slice o.x.ra o.x.rs.length o.x.rc,.slice o.x.sa o.x.ss.length o.x.sc,.slice o.x.wa o.x.ws.length o.x.wc,.bool o.raw,.int .i64 o.kind,.slice o.a o.bs.length o.c,.int .i64 o.gap],.int .i64 index,.int .i64 count] w (EnAt B (wrap64 (index+1+o.gap)) kd L w):=by
 obtain ⟨x,raw,kind,da,dc,bs,gap⟩:=o
 simp only at h hr1 hr2 ⊢
 have HR1:=hid hr1;have HR2:=hid hr2
 clear hr1 hr2
 have HX:=hid fun W (hb:Below w.heap.size w W)=>h.below hB hb
 have HBw:=hid hB
 clear h hB
 obtain ⟨nb,hnb⟩:∃ n,n=bs.length:=⟨_,rfl⟩
 have HNB:=hid hnb
 rw [←hnb]
 clear hnb
 go_enter Tryz.func26,Tryz.ntmps26
 go_upto_region 1 with fail
 generalize hW1:World.alloc (World.alloc _ _) _=w1
 have hb1:Below w.heap.size w w1:=by rw [←hW1];exact below_auto
 have q0:w1.heap[w.heap.size]? = some (.cells #[.int .i64 x.s0,.int .i64 x.s1,.int .i64 x.s2,.slice x.ra x.rs.length x.rc,.slice x.sa x.ss.length x.sc,.slice x.wa x.ws.length x.wc,.bool raw,.int .i64 kind,.slice da nb dc,.int .i64 gap] 68 (0,0)):=by
  rw [←hW1]
  exact ((World.grownBy_alloc (w.alloc (.cells #[.int .i64 x.s0,.int .i64 x.s1,.int .i64 x.s2,.slice x.ra x.rs.length x.rc,.slice x.sa x.ss.length x.sc,.slice x.wa x.ws.length x.wc,.bool raw,.int .i64 kind,.slice da nb dc,.int .i64 gap] 68)) _ none).block _ (by simp) (by simp)).trans (heap_alloc_new w _)
 have q1:w1.heap[w.heap.size+1]? = some (.cells #[.int .i64 0,.int .i64 0,.int .i64 0,.slice none 0 0] 74 (0,0)):=by
  rw [←hW1]
  have:=heap_alloc_new (w.alloc (.cells #[.int .i64 x.s0,.int .i64 x.s1,.int .i64 x.s2,.slice x.ra x.rs.length x.rc,.slice x.sa x.ss.length x.sc,.slice x.wa x.ws.length x.wc,.bool raw,.int .i64 kind,.slice da nb dc,.int .i64 gap] 68)) (.cells #[.int .i64 0,.int .i64 0,.int .i64 0,.slice none 0 0] 74)
  simpa using this
 clear hW1
 have HB1:=hid hb1
 have HQ0:=hid q0;have HQ1:=hid q1
 have hz:w.heap.size+1<w1.heap.size:=(Array.getElem?_eq_some_iff.1 q1).1
 obtain ⟨⟨c0,c1,c2,c3,c4⟩,⟨c5,c6,c7,c8,c9⟩,cl⟩:=box10 q0
 cases raw with
 | true =>
  obtain ⟨hkd,hL⟩:=HR1.out rfl
  obtain rfl:=hkd.symm
  obtain rfl:=hL.symm
  clear HR1 HR2
  obtain ⟨y0,y1,y2,y3,yl⟩:=box4 q1
  obtain ⟨e0,e1,e2,e3⟩:=fz4 q1
  have hs:=set4 q1 (.int .i64 (wrap64 (index+1+gap))) (.int .i64 0) (.int .i64 kind) (.slice da nb dc)
  have HF:=hid (show EnAt B (wrap64 (index+1+gap)) kind bs w (.returned (.agg #[.int .i64 (wrap64 (index+1+gap)),.int .i64 0,.int .i64 kind,.slice da nb dc])) _ from by
   have hB:=HBw.out
   have hd:=(HX.out w (Below.refl _ _)).dat
   have hb9:=hb1.trans (grownZ hs.2 (B:=w.heap.size) (by omega) hb1.size)
   refine ⟨da,dc,by rw [HNB.out],?_,fun p hp h0=>?_,hb9⟩
   ·have:=belowB_below hd hB (hb9.mono hB)
    exact ⟨by rcases this.row with h1|⟨b,o,h1,h2,h3⟩;exact .inl h1;exact .inr ⟨b,o,h1,Nat.lt_of_lt_of_le h2 (Nat.le_trans hB hb9.size),h3⟩,this.lt,this.cap⟩
   ·rcases hd.row with h1|⟨b,o,h1,h2,_⟩
    ·exact absurd h1 h0
    ·rw [hp] at h1;cases h1;exact .inl h2)
  clear q0 q1 hb1 hs
  go_wp2_with fail
  refine bodyPost_ret (v:=.agg #[.int .i64 (wrap64 (index+1+gap)),.int .i64 0,.int .i64 kind,.slice da nb dc]) (by simp [results,Tryz.results26,go_sem, *]) rfl ?_
  exact HF.out
 | false =>
  obtain ⟨hkd,hL⟩:=HR2.out rfl
  subst hkd
  obtain ⟨y,hy⟩:∃ y,y=snapV x count:=⟨_,rfl⟩
  have HY:=hid hy
  rw [←hy] at hL
  have HLY:=hid hL
  clear hy hL q0 q1 HR1 HR2
  go_upto_region 4 with fail
  have q3:(w1.alloc (.cells #[.int .i64 x.s0,.int .i64 x.s1,.int .i64 x.s2,.slice x.ra x.rs.length x.rc,.slice x.sa x.ss.length x.sc,.slice x.wa x.ws.length x.wc] 41 (0,0))).heap[w1.heap.size]? = some (.cells #[.int .i64 x.s0,.int .i64 x.s1,.int .i64 x.s2,.slice x.ra x.rs.length x.rc,.slice x.sa x.ss.length x.sc,.slice x.wa x.ws.length x.wc] 41 (0,0)):=heap_alloc_new w1 _
  have hb13:Below w1.heap.size w1 (w1.alloc (.cells #[.int .i64 x.s0,.int .i64 x.s1,.int .i64 x.s2,.slice x.ra x.rs.length x.rc,.slice x.sa x.ss.length x.sc,.slice x.wa x.ws.length x.wc] 41 (0,0))):=by exact below_auto
  obtain ⟨S,hS⟩:∃ S,S=w1.heap.size:=⟨_,rfl⟩
  rw [←hS] at q3 ⊢
  generalize hW3:World.alloc _ _=w3 at *
  have HS:=hid hS
  clear hW3 hS c0 c1 c2 c3 c4 c5 c6 c7 c8 c9 cl
  have HB3:=hid (hb1.trans (hb13.mono hb1.size))
  have HE3:=hid ((hb13.block _ (by omega)).trans HQ0.out)
  have HR3:=hid ((hb13.block _ hz).trans HQ1.out)
  clear hb1 hb13
  obtain ⟨t0,t1,t2,t3,t4,t5⟩:=P.box6 q3
  have tl:=(Array.getElem?_eq_some_iff.1 q3).1
  have tf:w3.frozen? ⟨S,2,none⟩=false:=by simp [World.frozen?,q3]
  rcases (show (x.s2<0∧-50<x.s2)∨(x.s2<0∧¬-50<x.s2)∨¬x.s2<0 by omega) with ⟨h1,h2⟩|⟨h1,h2⟩|h1
  go_upto_region 6 with fail
  obtain ⟨qS,gS⟩:=K.set1 (i:=2) q3 (.int .i64 (max (count+1+x.s2) 0))
  have hS:=HS.out
  have hbw:=HB3.out.size
  have hb1z:=HB1.out.size
  have QS:=hid (show (w3.setCell ⟨S,2,none⟩ (.int .i64 (max (count+1+x.s2) 0))).heap[S]? = some (.cells #[.int .i64 y.s0,.int .i64 y.s1,.int .i64 y.s2,.slice y.ra y.rs.length y.rc,.slice y.sa y.ss.length y.sc,.slice y.wa y.ws.length y.wc] 41 (0,0)) from by
   rw [HY.out];unfold snapV
   rw [if_pos ⟨h1,h2⟩];exact qS)
  have HB5:=hid (HB3.out.trans (grownZ gS (B:=w.heap.size) (by omega) hbw))
  have HE5:=hid ((gS.block _ (Array.getElem?_eq_some_iff.1 HE3.out).1 fun e=>by have:=Option.some.inj e;omega).trans HE3.out)
  have HR5:=hid ((gS.block _ (Array.getElem?_eq_some_iff.1 HR3.out).1 fun e=>by have:=Option.some.inj e;omega).trans HR3.out)
  clear qS gS hS hbw hb1z q3 t0 t1 t2 t3 t4 t5 tl tf HB3 HE3 HR3
  generalize w3.setCell ⟨S,2,none⟩ (.int .i64 (max (count+1+x.s2) 0))=w5 at *
  rotate_left
  go_upto_region 6 with fail
  have QS:=hid (show w3.heap[S]? = some (.cells #[.int .i64 y.s0,.int .i64 y.s1,.int .i64 y.s2,.slice y.ra y.rs.length y.rc,.slice y.sa y.ss.length y.sc,.slice y.wa y.ws.length y.wc] 41 (0,0)) from by
   rw [HY.out];unfold snapV
   rw [if_neg (by omega)];exact q3)
  have HB5:=hid HB3.out;have HE5:=hid HE3.out;have HR5:=hid HR3.out
  clear q3 t0 t1 t2 t3 t4 t5 tl tf HB3 HE3 HR3
  generalize w3=w5 at *
  rotate_left
  go_upto_region 6 with fail
  have QS:=hid (show w3.heap[S]? = some (.cells #[.int .i64 y.s0,.int .i64 y.s1,.int .i64 y.s2,.slice y.ra y.rs.length y.rc,.slice y.sa y.ss.length y.sc,.slice y.wa y.ws.length y.wc] 41 (0,0)) from by
   rw [HY.out];unfold snapV
   rw [if_neg (by omega)];exact q3)
  have HB5:=hid HB3.out;have HE5:=hid HE3.out;have HR5:=hid HR3.out
  clear q3 t0 t1 t2 t3 t4 t5 tl tf HB3 HE3 HR3
  generalize w3=w5 at *
  rotate_left
  all_goals
   obtain ⟨Y0,hY0⟩:∃ Y:World,Y = { w5 with drawn:=w5.drawn+1 }:=⟨_,rfl⟩
   have hb0:Below w5.heap.size w5 Y0:=by rw [hY0];exact Below.drew (Below.refl _ _)
   have hb0Y:=HB5.out.trans (hb0.mono HB5.out.size)
   have HBY:=hid hb0Y
   have HEY:=hid ((hb0.block _ (Array.getElem?_eq_some_iff.1 HE5.out).1).trans HE5.out)
   have HRY:=hid ((hb0.block _ (Array.getElem?_eq_some_iff.1 HR5.out).1).trans HR5.out)
   have HSY:=hid ((hb0.block _ (Array.getElem?_eq_some_iff.1 QS.out).1).trans QS.out)
   have hat:=HX.out Y0 hb0Y
   have HDB:=hid (docBytes_gen y Y0 (by rw [HY.out];exact snapV_at hat.x count) (by rw [HY.out];unfold snapV;split <;> exact hat.num.1) (by rw [HY.out];unfold snapV;split <;> exact hat.num.2.1) (by
    have h9:=hat.num.2.2
    rw [HY.out];unfold snapV;split
    ·unfold NumD at h9 ⊢;simp only at h9 ⊢;omega
    ·exact h9) (by have:=hat.len;rw [HY.out];unfold snapV;split <;> (simp only at this ⊢;omega)) (by have:=hat.len;rw [HY.out];unfold snapV;split <;> (simp only at this ⊢;omega)) (by have:=hat.len;rw [HY.out];unfold snapV;split <;> (simp only at this ⊢;omega)))
   have HLB:=hid (docB_byte y)
   rw [←HLY.out] at HDB HLB
   have HY0:=hid hY0
   clear hY0 hb0 hb0Y hat HB5 HE5 HR5 QS HX
   refine wp_region_chainV [(0,fun _=>.int .i64 index),(0,fun _=>.int .i64 (index+1)),(0,fun _=>.pointer (some ⟨w.heap.size,9,none⟩)),(0,fun _=>.int .i64 gap),(0,fun _=>.int .i64 (wrap64 (index+1+gap))),(0,fun _=>.agg #[.int .i64 y.s0,.int .i64 y.s1,.int .i64 y.s2,.slice y.ra y.rs.length y.rc,.slice y.sa y.ss.length y.sc,.slice y.wa y.ws.length y.wc]),(1,fun ms=>ms.getD 0 undef),(1,fun ms=>.agg #[.int .i64 (wrap64 (index+1+gap)),.int .i64 0,.int .i64 1,ms.getD 0 undef]),(2,fun _=>undef)] (EnR Y0 (w.heap.size+1) (wrap64 (index+1+gap)) L) (fun _ _=>False) [6,8] rfl (by kernel_rfl) (by kernel_rfl) (by kernel_rfl) (by decide) (by decide) HY0.out.symm ?_ ?_ ?_
   ·simp only [StepsV,List.nil_append,List.cons_append,Nat.zero_add,Nat.reduceAdd]
    refine ⟨?_,?_,?_,?_,?_,?_,?_,?_,?_,trivial⟩
    ·skip
     intro ms X g1 g2 hx
     refine mM ?_
     generalize hR:(fun v w'=>(_→v=_)∧_)=RR
     have HR:=hid hR
     have HXX:=hid hx
     clear hR g1 g2 hx
     try refine mV ?_
     go_wp2_with fail
     have hR:=HR.out
     subst hR
     exact ⟨rfl,fun _=>rfl,HXX.out⟩
    ·skip
     intro ms X g1 g2 hx
     refine mM ?_
     generalize hR:(fun v w'=>(_→v=_)∧_)=RR
     have HR:=hid hR
     have HXX:=hid hx
     clear hR g1 g2 hx
     try refine mV ?_
     go_wp2_with fail
     have hR:=HR.out
     subst hR
     exact ⟨rfl,fun _=>rfl,HXX.out⟩
    ·skip
     intro ms X g1 g2 hx
     refine mM ?_
     generalize hR:(fun v w'=>(_→v=_)∧_)=RR
     have HR:=hid hR
     have HXX:=hid hx
     clear hR g1 g2 hx
     try refine mV ?_
     go_wp2_with fail
     have hR:=HR.out
     subst hR
     exact ⟨rfl,fun _=>rfl,HXX.out⟩
    ·skip
     intro ms X g1 g2 hx
     have hl1:ms.length≤1:=Nat.le_trans g2 (by decide +kernel)
     have bx:=(EnR.kept hx hl1 (Array.getElem?_eq_some_iff.1 HEY.out).1).trans HEY.out
     obtain ⟨-,⟨-,-,-,-,c9⟩,cl⟩:=box10 bx
     refine mM ?_
     generalize hR:(fun v w'=>(_→v=_)∧_)=RR
     have HR:=hid hR
     have HXX:=hid hx
     clear hR g1 g2 hx bx hl1
     try refine mV ?_
     go_wp2_with fail
     have hR:=HR.out
     subst hR
     exact ⟨rfl,fun _=>rfl,HXX.out⟩
    ·skip
     intro ms X g1 g2 hx
     refine mM ?_
     generalize hR:(fun v w'=>(_→v=_)∧_)=RR
     have HR:=hid hR
     have HXX:=hid hx
     clear hR g1 g2 hx
     try refine mV ?_
     go_wp2_with fail
     have hR:=HR.out
     subst hR
     exact ⟨rfl,fun _=>rfl,HXX.out⟩
    ·skip
     intro ms X g1 g2 hx
     have hl1:ms.length=0:=Nat.le_zero.1 (Nat.le_trans g2 (by decide +kernel))
     obtain rfl:=List.eq_nil_of_length_eq_zero hl1
     have bx:X.heap[S]? = _:=(show X=Y0 from hx) ▸ HSY.out
     obtain ⟨t0,t1,t2,t3,t4,t5⟩:=P.box6 bx
     have tl:=(Array.getElem?_eq_some_iff.1 bx).1
     refine mM ?_
     generalize hR:(fun v w'=>(_→v=_)∧_)=RR
     have HR:=hid hR
     have HXX:=hid hx
     clear hR g1 g2 hx bx hl1
     try refine mV ?_
     go_wp2_with fail
     have hR:=HR.out
     subst hR
     exact ⟨rfl,fun _=>rfl,HXX.out⟩
    ·skip
     intro ms X g1 g2 hx
     have hl:ms.length=0:=Nat.le_antisymm (Nat.le_trans g2 (by decide +kernel)) (Nat.le_trans (by decide +kernel) g1)
     obtain rfl:=P.ls0 hl
     obtain rfl:X=Y0:=hx
     refine mM ?_
     generalize hR:(fun v w'=>(_→v=_)∧_)=RR
     have HR:=hid hR
     clear hR g1 g2 hl
     refine mV ?_
     have HC:=hid (HDB.out)
     go_wp2_with fail
     refine HC.out.mono ?_
     rintro e X2 ⟨a,c,rfl,h3,h4⟩
     have HE:Hid (EnR X (w.heap.size+1) (wrap64 (index+1+gap)) L [.slice a L.length c] X2):=hid (⟨a,c,rfl,h3,h4⟩)
     clear HC
     go_wp2_with fail
     have hR:=HR.out
     subst hR
     exact ⟨rfl,fun _=>rfl,HE.out⟩
    ·skip
     intro ms X g1 g2 hx
     have hlk:ms.length=1:=Nat.le_antisymm (Nat.le_trans g2 (by decide +kernel)) (Nat.le_trans (by decide +kernel) g1)
     obtain ⟨v0,rfl⟩:=ls1 hlk
     obtain ⟨a9,c9,e9,-⟩:=id hx
     subst e9
     refine mM ?_
     generalize hR:(fun v w'=>(_→v=_)∧_)=RR
     have HR:=hid hR
     have HXX:=hid hx
     clear hR g1 g2 hx hlk
     try refine mV ?_
     go_wp2_with fail
     have hR:=HR.out
     subst hR
     exact ⟨rfl,fun _=>rfl,HXX.out⟩
    ·skip
     intro ms X g1 g2 hx
     have hlk:ms.length=1:=Nat.le_antisymm (Nat.le_trans g2 (by decide +kernel)) (Nat.le_trans (by decide +kernel) g1)
     obtain ⟨v0,rfl⟩:=ls1 hlk
     obtain ⟨a,c,rfl,h3,h4⟩:=hx
     have bx:=(h4.block _ (Array.getElem?_eq_some_iff.1 HRY.out).1).trans HRY.out
     obtain ⟨y0,y1,y2,y3,yl⟩:=box4 bx
     obtain ⟨e0,e1,e2,e3⟩:=fz4 bx
     refine mM ?_
     generalize hR:(fun v w'=>(_→v=_)∧_)=RR
     have HR2:=hid hR
     clear hR g1 g2 hlk bx
     refine mV ?_
     have HE':Hid (EnR Y0 (w.heap.size+1) (wrap64 (index+1+gap)) L [.slice a L.length c,undef] ((((X.setCell ⟨w.heap.size+1,0,none⟩ (.int .i64 (wrap64 (index+1+gap)))).setCell ⟨w.heap.size+1,1,none⟩ (.int .i64 0)).setCell ⟨w.heap.size+1,2,none⟩ (.int .i64 1)).setCell ⟨w.heap.size+1,3,none⟩ (.slice a L.length c))):=hid ⟨a,c,X,rfl,h3,h4,rfl⟩
     clear h3 h4
     go_wp2_with fail
     have hR:=HR2.out
     subst hR
     exact ⟨rfl,fun h=>absurd rfl h,HE'.out⟩
   ·intro ms X hl hx
    obtain ⟨v0,v1,rfl⟩:=ls2 hl
    obtain ⟨a,c,X1,rfl,h3,h4,hX⟩:=hx
    have bx:=(h4.block _ (Array.getElem?_eq_some_iff.1 HRY.out).1).trans HRY.out
    obtain ⟨r1,g1⟩:=set4 bx (.int .i64 (wrap64 (index+1+gap))) (.int .i64 0) (.int .i64 1) (.slice a L.length c)
    rw [←hX] at r1 g1
    have HF:=hid (show EnAt B (wrap64 (index+1+gap)) 1 L w (.returned (.agg #[.int .i64 (wrap64 (index+1+gap)),.int .i64 0,.int .i64 1,.slice a L.length c])) X from by
     have hz:=HBY.out.size
     have hlt:=h3.lt
     have hrow:X.ownsRow Y0.heap.size 5 1 (.slice a L.length c) L.length (bCells L):=C.row_kept h3 fun g e=>g1.block g (hlt g e).2 fun e'=>by
      have h5:=(hlt g e).1;have h6:=(Array.getElem?_eq_some_iff.1 HRY.out).1;have:=Option.some.inj e';omega
     refine ⟨a,c,rfl,C.own_belowB rfl hrow HLB.out,fun p hp h0=>.inr ?_,(HBY.out.trans (h4.mono hz)).trans (grownZ g1 (by omega) (Nat.le_trans hz h4.size))⟩
     have:=(hlt p.block (by rw [hp];rfl)).1
     omega)
    obtain ⟨y0,y1,y2,y3,yl⟩:=box4 r1
    refine mV ?_
    clear hl hX h3 h4 bx r1 g1
    go_wp2_with fail
    refine bodyPost_ret (v:=.agg #[.int .i64 (wrap64 (index+1+gap)),.int .i64 0,.int .i64 1,.slice a L.length c]) (by simp [results,Tryz.results26,go_sem, *]) rfl ?_
    exact HF.out
   ·exact fun _ _ _ _ h=>h.elim
open Go.Proofs.YtdeeoddacnealaaGreat.C (CL newC)
open Go.Proofs.YtdeeoddacnealaaGreat.P (BelowB BRet docB docBytes_any docBytes_gen NumD bCells dec toD)

def oneX (g:Nat):SubV:=⟨1,1,0,none,0,[],none,0,[],some ⟨g,0,none⟩,1,[4607182418800017408]⟩
def oneL:P.Dt:=(1,1,0,[],[],[4607182418800017408])
theorem oneX_check (g:Nat):K.SubV.check (oneX g)=0:=by
 have h:K.SubV.check ⟨1,1,0,none,0,[],none,0,[],none,1,[4607182418800017408]⟩=0:=by decide +kernel
 exact h
theorem oneX_dec (g:Nat):dec (docB (oneX g))=some oneL:=by
 have h:=(P.enc_dec (oneX_check g)).1
 unfold P.encO at h
 rw [if_pos (oneX_check g),P.packB_dB] at h
 have e:docB (oneX g)=P.dB (toD (oneX g)):=by
  simp only [docB,P.dB,toD,P.rowK,P.rowS,P.keysB,List.length_map,List.flatMap_map,List.append_assoc]
 rw [e,h];rfl
def m0:MD:=⟨newC 4 4 0 0 0 0,[],0⟩
def m1:MD:=(applyS m0 1 oneL).1
def m2:MD:=(applyS m1 2 oneL).1
theorem step1:applyS m0 1 oneL=(m1,⟨1,1,0,1,true⟩,0):=by kernel_rfl
theorem step2:applyS m1 2 oneL=(m2,⟨1,1,0,1,false⟩,0):=by kernel_rfl
theorem m_facts:m1.ix=1∧m2.ix=2∧m2.c.count=1∧m2.c.horizon=0:=⟨by kernel_rfl,by kernel_rfl,by kernel_rfl,by kernel_rfl⟩
theorem apply0 {bs:List Nat} (h:dec bs=some oneL):applyD m0 1 1 bs=(m1,⟨1,1,0,1,true⟩,0):=by
 unfold applyD
 rw [if_neg (by decide),if_neg (by decide)]
 unfold applyB
 rw [h];exact step1
theorem apply1 {bs:List Nat} (h:dec bs=some oneL):applyD m1 2 1 bs=(m2,⟨1,1,0,1,false⟩,0):=by
 unfold applyD
 rw [m_facts.1,if_neg (by decide),if_neg (by decide)]
 unfold applyB
 rw [h];exact step2
theorem apply2 (bs:List Nat) (k:Int):applyD m2 5 k bs=(m2,aZero,60):=by
 unfold applyD
 rw [m_facts.2.1,if_pos (by decide)]
theorem belowB_at {w:World} {base:Nat} {a:Option Addr} {c:Nat} {xs:List Nat} (h:w.ownsRow base 5 1 (.slice a xs.length c) xs.length (bCells xs)) (hlt:∀ x∈xs,x<256) {w':World} (hb:Below w.heap.size w w'):BelowB w'.heap.size w' a c xs:=by
 have h1:=C.own_belowB rfl h hlt
 refine ⟨?_,h1.lt,h1.cap⟩
 rcases h1.row with h2|⟨b,o,h2,h3,h4⟩
 ·exact .inl h2
 ·exact .inr ⟨b,o,h2,Nat.lt_of_lt_of_le h3 hb.size,fun i hi=>(hb.cell (p:=⟨b,o+i,none⟩) h3).trans (h4 i hi)⟩
theorem belowB_frm {w w':World} {P P':Nat→Prop} {a:Option Addr} {c:Nat} {bs:List Nat} (h:BelowB w.heap.size w a c bs) (f:FrM P P' w w') (hP:∀ p,a=some p→¬P p.block):BelowB w'.heap.size w' a c bs:=by
 refine ⟨?_,h.lt,h.cap⟩
 rcases h.row with h1|⟨b,o,h1,h2,h3⟩
 ·exact .inl h1
 ·refine .inr ⟨b,o,h1,Nat.lt_of_lt_of_le h2 f.size,fun i hi=>?_⟩
  rw [←h3 i hi]
  unfold World.cell?
  rw [f.block b h2 (hP _ h1)]
set_option maxHeartbeats 4000000 in
set_option maxRecDepth 100000 in
theorem alive14_any (w:World):Calls Tryz.prog 24 #[] w (Ret (.bool true) w):=by
 go_enter Tryz.func24,Tryz.ntmps24
 go_wp2_with fail
 refine (mNew_any 4 4 w (by omega)).mono ?_
 rintro e w1 ⟨T,s0,rfl,hM,hb1,hd0,-,-⟩
 have hd0:s0.d=m0:=hd0
 have HM:=hid hM;have HB1:=hid hb1;have HD0:=hid hd0
 have hT:T<w1.heap.size:=hM.lt
 clear hM hb1 hd0
 go_upto_region 4 with fail
 obtain ⟨g,hg⟩:∃ g,g=w1.heap.size:=⟨_,rfl⟩
 have hb12:Below w1.heap.size w1 (w1.alloc (.cells #[.float .f64 4607182418800017408] 57)):=by exact below_auto
 have hrow:(w1.alloc (.cells #[.float .f64 4607182418800017408] 57)).heap[g]? = some (.cells #[.float .f64 4607182418800017408] 57 (0,0)):=by rw [hg];exact heap_alloc_new w1 _
 have hx:(oneX g).At (w1.alloc (.cells #[.float .f64 4607182418800017408] 57)):=by
  refine ⟨⟨.inl rfl,fun i hi=>absurd hi (Nat.not_lt_zero i),Nat.zero_le _⟩,⟨.inl rfl,fun i hi=>absurd hi (Nat.not_lt_zero i),Nat.zero_le _⟩,⟨.inr ⟨g,0,rfl,(Array.getElem?_eq_some_iff.1 hrow).1,fun i hi=>?_⟩,fun i hi=>?_,by unfold maxLen;show 1≤_;omega⟩⟩
  ·have hi:i<1:=hi
   obtain rfl:i=0:=by omega
   rw [cell_row hrow];rfl
  ·have hi:i<1:=hi
   obtain rfl:i=0:=by omega
   show (4607182418800017408:Nat)<_;omega
 have HBY:=hid (docBytes_any (oneX g) _ hx (oneX_check g))
 have hdoc:P.packB (P.valsOf (oneX g))=docB (oneX g):=by
  rw [P.packB_dB]
  simp only [docB,P.dB,toD,P.rowK,P.rowS,P.keysB,List.length_map,List.flatMap_map,List.append_assoc]
 rw [hdoc] at HBY
 have HBT:=hid (docB_byte (oneX g))
 have HDC:=hid (oneX_dec g)
 have HB2:=hid hb12
 rw [hg] at HBY HBT HDC
 generalize hL:docB (oneX w1.heap.size)=L at *
 have HBY':=hid (show Calls Tryz.prog 66 #[.agg #[.int .i64 1,.int .i64 1,.int .i64 0,.slice none 0 0,.slice none 0 0,.slice (some ⟨w1.heap.size,0,none⟩) 1 1]] (w1.alloc (.cells #[.float .f64 4607182418800017408] 57)) (BRet L (w1.alloc (.cells #[.float .f64 4607182418800017408] 57))) from HBY.out)
 clear hx hrow hdoc hL hg hb12 HBY
 go_wp2_with fail
 refine HBY'.out.mono ?_
 rintro e w3 ⟨a,c,rfl,ho3,hb3⟩
 have hb13:=HB2.out.trans (hb3.mono HB2.out.size)
 have hM3:=HM.out.below hb13
 have HBD:=hid fun W (hb:Below w3.heap.size w3 W)=>belowB_at ho3 HBT.out hb
 have hown:=ho3.lt
 have hfr:∀ p,(some p:Option Addr)=a→w1.heap.size<p.block:=fun p e=>by
  have:=(hown p.block (by rw [←e];rfl)).1
  simp at this;omega
 have HFRS:=hid hfr
 have HB3:=hid (HB1.out.trans (hb13.mono HB1.out.size))
 have HT:=hid (show w1.heap.size≤w3.heap.size from hb13.size)
 obtain ⟨n,hn⟩:∃ n,n=L.length:=⟨_,rfl⟩
 have HNL:=hid hn
 rw [←hn]
 have A1:=hid (show Calls Tryz.prog 25 #[.pointer (some ⟨T,0,none⟩),.agg #[.int .i64 1,.int .i64 0,.int .i64 1,.slice a n c]] w3 (ApRet w.heap.size T s0 (m1,⟨1,1,0,1,true⟩,0) w3) from by
  have h:=apply_any hM3 (show 0≤s0.d.ix∧s0.d.ix≤4611686018427387904 by rw [HD0.out];decide) 1 0 1 a c L (HBD.out _ (Below.refl _ _)) fun p hp _ e=>by have:=HFRS.out p hp.symm;omega
  rw [HD0.out,apply0 HDC.out,←HNL.out] at h
  exact h)
 have HMM3:=hid hM3
 have HOW:=hid (show ∀ k,w1.heap.size≤k→¬s0.own T k from fun k hk h0=>by have:=(HM.out.low h0).2;omega)
 clear hM3 hb3 hb13 ho3 hown hfr hn HM HB2 HBY'
 go_wp2_with fail
 refine A1.out.mono ?_
 rintro e w4 ⟨rfl,s1,hM4,hd4,hf4,-,-⟩
 simp only at hd4
 have hB4:=belowB_frm (HBD.out w3 (Below.refl _ _)) hf4 fun p hp=>HOW.out _ (by have:=HFRS.out p hp.symm;omega)
 have HOW4:=hid (show ∀ k,w1.heap.size≤k→k<w3.heap.size→¬s1.own T k from fun k hk hk3 h0=>HOW.out k hk ((hf4.own k hk3).1 h0))
 have hB04:=HB3.out.trans (HMM3.out.fr_below hf4)
 go_upto_region 6 with fail
 have q5:(w4.alloc (.cells #[.int .i64 1,.int .i64 1,.int .i64 0,.int .i64 1,.bool true] 70)).heap[w4.heap.size]? = some (.cells #[.int .i64 1,.int .i64 1,.int .i64 0,.int .i64 1,.bool true] 70 (0,0)):=heap_alloc_new w4 _
 have hb45:Below w4.heap.size w4 (w4.alloc (.cells #[.int .i64 1,.int .i64 1,.int .i64 0,.int .i64 1,.bool true] 70)):=by exact below_auto
 obtain ⟨X1,hX1⟩:∃ X,X=w4.heap.size:=⟨_,rfl⟩
 rw [←hX1] at q5 ⊢
 generalize hW5:World.alloc _ _=w5 at *
 have HX1:=hid hX1
 have hM5:=hM4.below hb45
 have hf35:=hf4.trans (FrM.of_below (s1.own T) hb45)
 have hB5:=belowB_frm hB4 (FrM.of_below (fun _=>False) hb45) (fun _ _ h=>h)
 have hx1:¬s1.own T X1:=fun h0=>by have:=(hM4.low h0).2;omega
 have hz3:=hf4.size
 have A2:=hid (show Calls Tryz.prog 25 #[.pointer (some ⟨T,0,none⟩),.agg #[.int .i64 2,.int .i64 0,.int .i64 1,.slice a n c]] w5 (ApRet w.heap.size T s1 (m2,⟨1,1,0,1,false⟩,0) w5) from by
  have h:=apply_any hM5 (show 0≤s1.d.ix∧s1.d.ix≤4611686018427387904 by rw [hd4,m_facts.1];decide) 2 0 1 a c L hB5 fun p hp _ e=>by have:=HFRS.out p hp.symm;omega
  rw [hd4,apply1 HDC.out,←HNL.out] at h
  exact h)
 have HB5:=hid (hB04.trans (hb45.mono hB04.size))
 have HM5:=hid hM5
 have HQ5:=hid q5;have HN5:=hid hx1
 clear hW5 hX1 hM5 hf35 hB5 hx1 hM4 hd4 hf4 hB4 hB04 hb45 q5 A1 hz3 HMM3
 go_wp2_with fail
 refine A2.out.mono ?_
 rintro e w6 ⟨rfl,s2,hM6,hd6,hf6,-,-⟩
 simp only at hd6
 have hB06:=HB5.out.trans (HM5.out.fr_below hf6)
 go_upto_region 7 with fail
 have q7:(w6.alloc (.cells #[.int .i64 1,.int .i64 1,.int .i64 0,.int .i64 1,.bool false] 70)).heap[w6.heap.size]? = some (.cells #[.int .i64 1,.int .i64 1,.int .i64 0,.int .i64 1,.bool false] 70 (0,0)):=heap_alloc_new w6 _
 have hb67:Below w6.heap.size w6 (w6.alloc (.cells #[.int .i64 1,.int .i64 1,.int .i64 0,.int .i64 1,.bool false] 70)):=by exact below_auto
 obtain ⟨X2,hX2⟩:∃ X,X=w6.heap.size:=⟨_,rfl⟩
 rw [←hX2] at q7 ⊢
 generalize hW7:World.alloc _ _=w7 at *
 have hM7:=hM6.below hb67
 have hl5:=(Array.getElem?_eq_some_iff.1 HQ5.out).1
 have q57:=(hb67.block X1 (Nat.lt_of_lt_of_le hl5 hf6.size)).trans ((hf6.block X1 hl5 HN5.out).trans HQ5.out)
 have hx1:¬s2.own T X1:=fun h0=>HN5.out ((hf6.own X1 hl5).1 h0)
 have hx2:¬s2.own T X2:=fun h0=>by have:=(hM6.low h0).2;omega
 have A3:=hid (show Calls Tryz.prog 25 #[.pointer (some ⟨T,0,none⟩),.agg #[.int .i64 5,.int .i64 0,.int .i64 0,.slice none 0 0]] w7 (ApRet w.heap.size T s2 (m2,aZero,60) w7) from by
  have h:=apply_any hM7 (show 0≤s2.d.ix∧s2.d.ix≤4611686018427387904 by rw [hd6,m_facts.2.1];decide) 5 0 0 none 0 [] ⟨.inl rfl,fun _ h=>(nomatch h),Nat.le_refl _⟩ fun p hp _=>nomatch hp
  rw [hd6,apply2] at h
  exact h)
 have HB7:=hid (hB06.trans (hb67.mono hB06.size))
 have HM7:=hid hM7
 have HQ7:=hid q7;have HQ57:=hid q57;have HN7:=hid (And.intro hx1 hx2)
 clear hW7 hX2 hM7 hx1 hx2 hM6 hd6 hf6 hB06 hb67 q7 q57 A2 hl5 HX1
 unfold aZero at A3
 go_wp2_with fail
 refine A3.out.mono ?_
 rintro e w8 ⟨rfl,s3,hM8,hd8,hf8,-,-⟩
 simp only at hd8
 have hB08:=HB7.out.trans (HM7.out.fr_below hf8)
 go_upto_region 8 with fail
 have hb89:Below w8.heap.size w8 (w8.alloc (.cells #[.int .i64 0,.int .i64 0,.int .i64 0,.int .i64 0,.bool false] 70)):=by exact below_auto
 generalize hW9:World.alloc _ _=w9 at *
 have hl7:=(Array.getElem?_eq_some_iff.1 HQ7.out).1
 have hl5:=(Array.getElem?_eq_some_iff.1 HQ57.out).1
 have qx1:=(hb89.block X1 (Nat.lt_of_lt_of_le hl5 hf8.size)).trans ((hf8.block X1 hl5 HN7.out.1).trans HQ57.out)
 have qx2:=(hb89.block X2 (Nat.lt_of_lt_of_le hl7 hf8.size)).trans ((hf8.block X2 hl7 HN7.out.2).trans HQ7.out)
 have hix:s3.ix=2:=(congrArg MD.ix hd8).trans m_facts.2.1
 have hct:s3.c.count=1:=(congrArg (fun m=>m.c.count) hd8).trans m_facts.2.2.1
 have hhz:s3.c.horizon=0:=(congrArg (fun m=>m.c.horizon) hd8).trans m_facts.2.2.2
 have hM9:=hM8.below hb89
 have I1:=hid fun W (hb:Below w9.heap.size w9 W)=>(show Calls Tryz.prog 27 #[.pointer (some ⟨T,0,none⟩)] W (Ret (.int .i64 2) W) from by have:=mIndex_any (hM9.below hb);rwa [hix] at this)
 have I2:=hid fun W (hb:Below w9.heap.size w9 W)=>(show Calls Tryz.prog 28 #[.pointer (some ⟨T,0,none⟩)] W (Ret (.int .i64 1) W) from by have:=mCount_any (hM9.below hb);rwa [hct] at this)
 have I3:=hid fun W (hb:Below w9.heap.size w9 W)=>(show Calls Tryz.prog 35 #[.pointer (some ⟨T,0,none⟩)] W (Ret (.int .i64 0) W) from by have:=mHorizon_any (hM9.below hb);rwa [hhz] at this)
 obtain ⟨⟨a0,a1,a2,a3,a4⟩,-,al⟩:=box5 qx1
 obtain ⟨⟨b0,b1,b2,b3,b4⟩,-,bl⟩:=box5 qx2
 have HB9:=hid (hB08.trans (hb89.mono hB08.size))
 clear hW9 hM8 hd8 hf8 hB08 hb89 hl7 hl5 qx1 qx2 hix hct hhz hM9 A3
 go_wp2_with (first|(go_at_call 27;with_reducible refine mQ (I1.out _ (by exact below_auto)) ?_;intro w21 hb21 hc21 hf21 hz21;intros)|(go_at_call 28;with_reducible refine mQ (I2.out _ (by exact below_auto)) ?_;intro w22 hb22 hc22 hf22 hz22;intros)|(go_at_call 35;with_reducible refine mQ (I3.out _ (by exact below_auto)) ?_;intro w23 hb23 hc23 hf23 hz23;intros))
 go_ret
 exact ⟨rfl,HB9.out.trans (Below.mono (by exact below_auto) HB9.out.size)⟩
open Go.Proofs.YtdeeoddacnealaaGreat.P (BelowB)

def ansA (a:AD):Array Value:=#[.int .i64 a.s0,.int .i64 a.s1,.int .i64 a.code,.int .i64 a.num,.bool a.fresh]
def tupV (r:AD×Int):Value:=.tuple #[.agg #[.int .i64 r.1.s0,.int .i64 r.1.s1,.int .i64 r.1.code,.int .i64 r.1.num,.bool r.1.fresh],.int .i64 r.2]
section
variable {B T : Nat} {s s' : MS} {opv : Value} {Y0 X X' : World} {L : Nat → Bool} {u : Nat → Value}
end
open Go.Proofs.YtdeeoddacnealaaGreat.C (CL newC row_kept)

def OpV.cells (o:OpV):List Value:=[.int .i64 o.x.s0,.int .i64 o.x.s1,.int .i64 o.x.s2,.slice o.x.ra o.x.rs.length o.x.rc,.slice o.x.sa o.x.ss.length o.x.sc,.slice o.x.wa o.x.ws.length o.x.wc,.bool o.raw,.int .i64 o.kind,.slice o.a o.bs.length o.c,.int .i64 o.gap]
theorem set5f {w:World} {b:Nat} {x0 x1 x2 x3 x4:Value} {t:TypeId} (h:w.heap[b]? = some (.cells #[x0,x1,x2,x3,x4] t (0,0))) (v0 v1 v2 v3 v4:Value) :
  (((((w.setCell ⟨b,0,none⟩ v0).setCell ⟨b,1,none⟩ v1).setCell ⟨b,2,none⟩ v2).setCell ⟨b,3,none⟩ v3).setCell ⟨b,4,none⟩ v4).heap[b]? = some (.cells #[v0,v1,v2,v3,v4] t (0,0))∧w.grownBy (((((w.setCell ⟨b,0,none⟩ v0).setCell ⟨b,1,none⟩ v1).setCell ⟨b,2,none⟩ v2).setCell ⟨b,3,none⟩ v3).setCell ⟨b,4,none⟩ v4) (some b):=by
 obtain ⟨q0,k0⟩:=K.set1 (i:=0) h v0
 obtain ⟨q1,k1⟩:=K.set1 (i:=1) q0 v1
 obtain ⟨q2,k2⟩:=K.set1 (i:=2) q1 v2
 obtain ⟨q3,k3⟩:=K.set1 (i:=3) q2 v3
 obtain ⟨q4,k4⟩:=K.set1 (i:=4) q3 v4
 exact ⟨q4,(((k0.trans k1).trans k2).trans k3).trans k4⟩

end Go.Proofs.YtdeeoddacnealaaGreat.M