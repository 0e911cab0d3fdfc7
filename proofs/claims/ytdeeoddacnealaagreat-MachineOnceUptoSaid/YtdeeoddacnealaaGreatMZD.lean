/- Several texts as one: ZD ZE ZF ZG. -/
import Derived.Test.YtdeeoddacnealaaGreatQ0
import Derived.Test.YtdeeoddacnealaaGreatMZA
import Derived.Test.YtdeeoddacnealaaGreatMPY
import Derived.Test.YtdeeoddacnealaaGreatMCW
import Derived.Test.YtdeeoddacnealaaGreatNoteI
import Derived.Deep.CutRange
set_option linter.unusedVariables false
set_option linter.unusedSimpArgs false
namespace Go.Proofs.YtdeeoddacnealaaGreat.M
open Go.RowKit Fl Go.Maps
open Go.Proofs.YtdeeoddacnealaaGreat.Z
open Go.Proofs.YtdeeoddacnealaaGreat.C (snapV snapV_at set6)
open Go.Proofs.YtdeeoddacnealaaGreat.P (BelowB BRet docB docBytes_gen NumD bCells own_bat ls0 ls1 ls2 ls3)

structure OpV where
 x:SubV
 raw:Bool
 kind:Int
 a:Option Addr
 c:Nat
 bs:List Nat
 gap:Int
structure OpV.At (o:OpV) (B:Nat) (w:World):Prop where
 x:o.x.At w
 num:NumD o.x.s0∧NumD o.x.s1∧NumD o.x.s2
 len:o.x.rs.length≤1048576∧o.x.ss.length≤1048576∧o.x.ws.length≤1048576
 dat:BelowB B w o.a o.c o.bs
theorem belowB_below {B:Nat} {w w':World} {a:Option Addr} {c:Nat} {bs:List Nat} (h:BelowB B w a c bs) (hB:B≤w.heap.size) (hb:Below B w w'):BelowB B w' a c bs:=by
 refine ⟨?_,h.lt,h.cap⟩
 rcases h.row with h1|⟨b,o,h1,h2,h3⟩
 ·exact .inl h1
 ·exact .inr ⟨b,o,h1,h2,fun i hi=>(hb.cell (p:=⟨b,o+i,none⟩) h2).trans (h3 i hi)⟩
theorem OpV.At.below {o:OpV} {B:Nat} {w w':World} (h:o.At B w) (hB:B≤w.heap.size) (hb:Below w.heap.size w w'):o.At B w':=⟨h.x.below hb,h.num,h.len,belowB_below h.dat hB (hb.mono hB)⟩
def EnRet (B:Nat) (w:World) (e:Ending) (w':World):Prop:=∃ (ix kind:Int) (a:Option Addr) (c:Nat) (bs:List Nat),e=.returned (.agg #[.int .i64 ix,.int .i64 0,.int .i64 kind,.slice a bs.length c])∧BelowB w'.heap.size w' a c bs∧(∀ p,a=some p→bs≠[]→p.block<B∨w.heap.size≤p.block)∧Below w.heap.size w w'
def EnR (Y0:World) (R:Nat) (ix:Int) (L:List Nat):List Value→World→Prop
 | [],X=>X=Y0
 | [v],X=>∃ a c,v=.slice a L.length c∧X.ownsRow Y0.heap.size 5 1 (.slice a L.length c) L.length (bCells L)∧Below Y0.heap.size Y0 X
 | v :: _,X=>∃ a c X1,v=.slice a L.length c∧X1.ownsRow Y0.heap.size 5 1 (.slice a L.length c) L.length (bCells L)∧Below Y0.heap.size Y0 X1∧X=(((X1.setCell ⟨R,0,none⟩ (.int .i64 ix)).setCell ⟨R,1,none⟩ (.int .i64 0)).setCell ⟨R,2,none⟩ (.int .i64 1)).setCell ⟨R,3,none⟩ (.slice a L.length c)
theorem EnR.kept {Y0 X:World} {R:Nat} {ix:Int} {L:List Nat} {ms:List Value} (h:EnR Y0 R ix L ms X) (hl:ms.length≤1) {k:Nat} (hk:k<Y0.heap.size):X.heap[k]? = Y0.heap[k]?:=by
 match ms,h with
 | [],h=>rw [show X=Y0 from h]
 | [_],⟨_,_,_,_,h⟩=>exact h.block k hk
 | _ :: _ :: _,_=>exact absurd hl (by simp)
theorem set4 {w:World} {b:Nat} {x0 x1 x2 x3:Value} {t:TypeId} (h:w.heap[b]? = some (.cells #[x0,x1,x2,x3] t (0,0))) (v0 v1 v2 v3:Value) :
  ((((w.setCell ⟨b,0,none⟩ v0).setCell ⟨b,1,none⟩ v1).setCell ⟨b,2,none⟩ v2).setCell ⟨b,3,none⟩ v3).heap[b]? = some (.cells #[v0,v1,v2,v3] t (0,0))∧w.grownBy ((((w.setCell ⟨b,0,none⟩ v0).setCell ⟨b,1,none⟩ v1).setCell ⟨b,2,none⟩ v2).setCell ⟨b,3,none⟩ v3) (some b):=by
 obtain ⟨q0,k0⟩:=K.set1 (i:=0) h v0
 obtain ⟨q1,k1⟩:=K.set1 (i:=1) q0 v1
 obtain ⟨q2,k2⟩:=K.set1 (i:=2) q1 v2
 obtain ⟨q3,k3⟩:=K.set1 (i:=3) q2 v3
 exact ⟨q3,((k0.trans k1).trans k2).trans k3⟩
theorem docB_byte (x:SubV):∀ y∈docB x,y<256:=by
 intro y hy
 unfold docB at hy
 simp only [List.mem_append,List.mem_flatMap] at hy
 rcases hy with (((((hy|hy)|hy)|hy)|hy)|⟨s,_,hy|hy⟩)|hy
 ·exact P.numB_byte _ y hy
 ·exact P.numB_byte _ y hy
 ·exact P.numB_byte _ y hy
 ·exact P.keysB_byte _ y hy
 ·exact P.numB_byte _ y hy
 ·exact P.keyB_byte _ y hy
 ·exact P.keyB_byte _ y hy
 ·exact P.keysB_byte _ y hy
theorem box10 {w:World} {b:Nat} {x0 x1 x2 x3 x4 x5 x6 x7 x8 x9:Value} {t:TypeId} (h:w.heap[b]? = some (.cells #[x0,x1,x2,x3,x4,x5,x6,x7,x8,x9] t (0,0))):(w.cell? ⟨b,0,none⟩=some x0∧w.cell? ⟨b,1,none⟩=some x1∧w.cell? ⟨b,2,none⟩=some x2∧w.cell? ⟨b,3,none⟩=some x3∧w.cell? ⟨b,4,none⟩=some x4)∧(w.cell? ⟨b,5,none⟩=some x5∧w.cell? ⟨b,6,none⟩=some x6∧w.cell? ⟨b,7,none⟩=some x7∧w.cell? ⟨b,8,none⟩=some x8∧w.cell? ⟨b,9,none⟩=some x9)∧b<w.heap.size :=
 ⟨⟨by rw [cell_row h];rfl,by rw [cell_row h];rfl,by rw [cell_row h];rfl,by rw [cell_row h];rfl,by rw [cell_row h];rfl⟩,⟨by rw [cell_row h];rfl,by rw [cell_row h];rfl,by rw [cell_row h];rfl,by rw [cell_row h];rfl,by rw [cell_row h];rfl⟩,(Array.getElem?_eq_some_iff.1 h).1⟩
theorem fz4 {w:World} {b:Nat} {x0 x1 x2 x3:Value} {t:TypeId} (h:w.heap[b]? = some (.cells #[x0,x1,x2,x3] t (0,0))):w.frozen? ⟨b,0,none⟩=false∧w.frozen? ⟨b,1,none⟩=false∧w.frozen? ⟨b,2,none⟩=false∧w.frozen? ⟨b,3,none⟩=false:=⟨by simp [World.frozen?,h],by simp [World.frozen?,h],by simp [World.frozen?,h],by simp [World.frozen?,h]⟩
set_option maxHeartbeats 4000000 in
set_option maxRecDepth 100000 in
theorem entry_any {B:Nat} {w:World} (o:OpV) (index count:Int) (h:o.At B w) (hB:B≤w.heap.size) (hc:0≤count∧count≤1099511627776) (hi:0≤index∧index≤4611686018427387904) :
  Calls Tryz.prog 26 #[.agg #[.int .i64 o.x.s0,.int .i64 o.x.s1,.int .i64 o.x.s2,.slice o.x.ra o.x.rs.length o.x.rc,.slice o.x.sa o.x.ss.length o.x.sc,.slice o.x.wa o.x.ws.length o.x.wc,.bool o.raw,.int .i64 o.kind,.slice o.a o.bs.length o.c,.int .i64 o.gap],.int .i64 index,.int .i64 count] w (EnRet B w):=by
 obtain ⟨x,raw,kind,da,dc,bs,gap⟩:=o
 simp only at h ⊢
 have HX:=hid fun W (hb:Below w.heap.size w W)=>h.below hB hb
 have HBw:=hid hB
 clear h hB
 obtain ⟨nb,hnb⟩:∃ n,n=bs.length:=⟨_,rfl⟩
 have HNB:=hid hnb
 rw [←hnb]
 clear hnb
 go_enter Tryz.func26,Tryz.ntmps26
 go_upto_region 1 with fail
 generalize hW1:World.alloc (World.alloc _ _) _=w1
 have hb1:Below w.heap.size w w1:=by rw [←hW1];exact below_auto
 have q0:w1.heap[w.heap.size]? = some (.cells #[.int .i64 x.s0,.int .i64 x.s1,.int .i64 x.s2,.slice x.ra x.rs.length x.rc,.slice x.sa x.ss.length x.sc,.slice x.wa x.ws.length x.wc,.bool raw,.int .i64 kind,.slice da nb dc,.int .i64 gap] 68 (0,0)):=by
  rw [←hW1]
  exact ((World.grownBy_alloc (w.alloc (.cells #[.int .i64 x.s0,.int .i64 x.s1,.int .i64 x.s2,.slice x.ra x.rs.length x.rc,.slice x.sa x.ss.length x.sc,.slice x.wa x.ws.length x.wc,.bool raw,.int .i64 kind,.slice da nb dc,.int .i64 gap] 68)) _ none).block _ (by simp) (by simp)).trans (heap_alloc_new w _)
 have q1:w1.heap[w.heap.size+1]? = some (.cells #[.int .i64 0,.int .i64 0,.int .i64 0,.slice none 0 0] 74 (0,0)):=by
  rw [←hW1]
  have:=heap_alloc_new (w.alloc (.cells #[.int .i64 x.s0,.int .i64 x.s1,.int .i64 x.s2,.slice x.ra x.rs.length x.rc,.slice x.sa x.ss.length x.sc,.slice x.wa x.ws.length x.wc,.bool raw,.int .i64 kind,.slice da nb dc,.int .i64 gap] 68)) (.cells #[.int .i64 0,.int .i64 0,.int .i64 0,.slice none 0 0] 74)
  simpa using this
 clear hW1
 have HB1:=hid hb1
 have HQ0:=hid q0;have HQ1:=hid q1
 have hz:w.heap.size+1<w1.heap.size:=(Array.getElem?_eq_some_iff.1 q1).1
 obtain ⟨⟨c0,c1,c2,c3,c4⟩,⟨c5,c6,c7,c8,c9⟩,cl⟩:=box10 q0
 cases raw with
 | true =>
  obtain ⟨y0,y1,y2,y3,yl⟩:=box4 q1
  obtain ⟨e0,e1,e2,e3⟩:=fz4 q1
  have hs:=set4 q1 (.int .i64 (wrap64 (index+1+gap))) (.int .i64 0) (.int .i64 kind) (.slice da nb dc)
  have HF:=hid (show EnRet B w (.returned (.agg #[.int .i64 (wrap64 (index+1+gap)),.int .i64 0,.int .i64 kind,.slice da nb dc])) _ from by
   have hB:=HBw.out
   have hd:=(HX.out w (Below.refl _ _)).dat
   have hb9:=hb1.trans (grownZ hs.2 (B:=w.heap.size) (by omega) hb1.size)
   refine ⟨_,_,da,dc,bs,by rw [HNB.out],?_,fun p hp h0=>?_,hb9⟩
   ·have:=belowB_below hd hB (hb9.mono hB)
    exact ⟨by rcases this.row with h1|⟨b,o,h1,h2,h3⟩;exact .inl h1;exact .inr ⟨b,o,h1,Nat.lt_of_lt_of_le h2 (Nat.le_trans hB hb9.size),h3⟩,this.lt,this.cap⟩
   ·rcases hd.row with h1|⟨b,o,h1,h2,_⟩
    ·exact absurd h1 h0
    ·rw [hp] at h1;cases h1;exact .inl h2)
  clear q0 q1 hb1 hs
  go_wp2_with fail
  refine bodyPost_ret (v:=.agg #[.int .i64 (wrap64 (index+1+gap)),.int .i64 0,.int .i64 kind,.slice da nb dc]) (by simp [results,Tryz.results26,go_sem, *]) rfl ?_
  exact HF.out
 | false =>
  obtain ⟨y,hy⟩:∃ y,y=snapV x count:=⟨_,rfl⟩
  have HY:=hid hy
  clear hy q0 q1
  go_upto_region 4 with fail
  have q3:(w1.alloc (.cells #[.int .i64 x.s0,.int .i64 x.s1,.int .i64 x.s2,.slice x.ra x.rs.length x.rc,.slice x.sa x.ss.length x.sc,.slice x.wa x.ws.length x.wc] 41 (0,0))).heap[w1.heap.size]? = some (.cells #[.int .i64 x.s0,.int .i64 x.s1,.int .i64 x.s2,.slice x.ra x.rs.length x.rc,.slice x.sa x.ss.length x.sc,.slice x.wa x.ws.length x.wc] 41 (0,0)):=heap_alloc_new w1 _
  have hb13:Below w1.heap.size w1 (w1.alloc (.cells #[.int .i64 x.s0,.int .i64 x.s1,.int .i64 x.s2,.slice x.ra x.rs.length x.rc,.slice x.sa x.ss.length x.sc,.slice x.wa x.ws.length x.wc] 41 (0,0))):=by exact below_auto
  obtain ⟨S,hS⟩:∃ S,S=w1.heap.size:=⟨_,rfl⟩
  rw [←hS] at q3 ⊢
  generalize hW3:World.alloc _ _=w3 at *
  have HS:=hid hS
  clear hW3 hS c0 c1 c2 c3 c4 c5 c6 c7 c8 c9 cl
  have HB3:=hid (hb1.trans (hb13.mono hb1.size))
  have HE3:=hid ((hb13.block _ (by omega)).trans HQ0.out)
  have HR3:=hid ((hb13.block _ hz).trans HQ1.out)
  clear hb1 hb13
  obtain ⟨t0,t1,t2,t3,t4,t5⟩:=P.box6 q3
  have tl:=(Array.getElem?_eq_some_iff.1 q3).1
  have tf:w3.frozen? ⟨S,2,none⟩=false:=by simp [World.frozen?,q3]
  rcases (show (x.s2<0∧-50<x.s2)∨(x.s2<0∧¬-50<x.s2)∨¬x.s2<0 by omega) with ⟨h1,h2⟩|⟨h1,h2⟩|h1
  go_upto_region 6 with fail
  obtain ⟨qS,gS⟩:=K.set1 (i:=2) q3 (.int .i64 (max (count+1+x.s2) 0))
  have hS:=HS.out
  have hbw:=HB3.out.size
  have hb1z:=HB1.out.size
  have QS:=hid (show (w3.setCell ⟨S,2,none⟩ (.int .i64 (max (count+1+x.s2) 0))).heap[S]? = some (.cells #[.int .i64 y.s0,.int .i64 y.s1,.int .i64 y.s2,.slice y.ra y.rs.length y.rc,.slice y.sa y.ss.length y.sc,.slice y.wa y.ws.length y.wc] 41 (0,0)) from by
   rw [HY.out];unfold snapV
   rw [if_pos ⟨h1,h2⟩];exact qS)
  have HB5:=hid (HB3.out.trans (grownZ gS (B:=w.heap.size) (by omega) hbw))
  have HE5:=hid ((gS.block _ (Array.getElem?_eq_some_iff.1 HE3.out).1 fun e=>by have:=Option.some.inj e;omega).trans HE3.out)
  have HR5:=hid ((gS.block _ (Array.getElem?_eq_some_iff.1 HR3.out).1 fun e=>by have:=Option.some.inj e;omega).trans HR3.out)
  clear qS gS hS hbw hb1z q3 t0 t1 t2 t3 t4 t5 tl tf HB3 HE3 HR3
  generalize w3.setCell ⟨S,2,none⟩ (.int .i64 (max (count+1+x.s2) 0))=w5 at *
  rotate_left
  go_upto_region 6 with fail
  have QS:=hid (show w3.heap[S]? = some (.cells #[.int .i64 y.s0,.int .i64 y.s1,.int .i64 y.s2,.slice y.ra y.rs.length y.rc,.slice y.sa y.ss.length y.sc,.slice y.wa y.ws.length y.wc] 41 (0,0)) from by
   rw [HY.out];unfold snapV
   rw [if_neg (by omega)];exact q3)
  have HB5:=hid HB3.out;have HE5:=hid HE3.out;have HR5:=hid HR3.out
  clear q3 t0 t1 t2 t3 t4 t5 tl tf HB3 HE3 HR3
  generalize w3=w5 at *
  rotate_left
  go_upto_region 6 with fail
  have QS:=hid (show w3.heap[S]? = some (.cells #[.int .i64 y.s0,.int .i64 y.s1,.int .i64 y.s2,.slice y.ra y.rs.length y.rc,.slice y.sa y.ss.length y.sc,.slice y.wa y.ws.length y.wc] 41 (0,0)) from by
   rw [HY.out];unfold snapV
   rw [if_neg (by omega)];exact q3)
  have HB5:=hid HB3.out;have HE5:=hid HE3.out;have HR5:=hid HR3.out
  clear q3 t0 t1 t2 t3 t4 t5 tl tf HB3 HE3 HR3
  generalize w3=w5 at *
  rotate_left
  all_goals
   obtain ⟨Y0,hY0⟩:∃ Y:World,Y = { w5 with drawn:=w5.drawn+1 }:=⟨_,rfl⟩
   have hb0:Below w5.heap.size w5 Y0:=by rw [hY0];exact Below.drew (Below.refl _ _)
   have hb0Y:=HB5.out.trans (hb0.mono HB5.out.size)
   have HBY:=hid hb0Y
   have HEY:=hid ((hb0.block _ (Array.getElem?_eq_some_iff.1 HE5.out).1).trans HE5.out)
   have HRY:=hid ((hb0.block _ (Array.getElem?_eq_some_iff.1 HR5.out).1).trans HR5.out)
   have HSY:=hid ((hb0.block _ (Array.getElem?_eq_some_iff.1 QS.out).1).trans QS.out)
   have hat:=HX.out Y0 hb0Y
   have HDB:=hid (docBytes_gen y Y0 (by rw [HY.out];exact snapV_at hat.x count) (by rw [HY.out];unfold snapV;split <;> exact hat.num.1) (by rw [HY.out];unfold snapV;split <;> exact hat.num.2.1) (by
    have h9:=hat.num.2.2
    rw [HY.out];unfold snapV;split
    ·unfold NumD at h9 ⊢;simp only at h9 ⊢;omega
    ·exact h9) (by have:=hat.len;rw [HY.out];unfold snapV;split <;> (simp only at this ⊢;omega)) (by have:=hat.len;rw [HY.out];unfold snapV;split <;> (simp only at this ⊢;omega)) (by have:=hat.len;rw [HY.out];unfold snapV;split <;> (simp only at this ⊢;omega)))
   have HLB:=hid (docB_byte y)
   generalize docB y=L at *
   have HY0:=hid hY0
   clear hY0 hb0 hb0Y hat HB5 HE5 HR5 QS HX
   refine wp_region_chainV [(0,fun _=>.int .i64 index),(0,fun _=>.int .i64 (index+1)),(0,fun _=>.pointer (some ⟨w.heap.size,9,none⟩)),(0,fun _=>.int .i64 gap),(0,fun _=>.int .i64 (wrap64 (index+1+gap))),(0,fun _=>.agg #[.int .i64 y.s0,.int .i64 y.s1,.int .i64 y.s2,.slice y.ra y.rs.length y.rc,.slice y.sa y.ss.length y.sc,.slice y.wa y.ws.length y.wc]),(1,fun ms=>ms.getD 0 undef),(1,fun ms=>.agg #[.int .i64 (wrap64 (index+1+gap)),.int .i64 0,.int .i64 1,ms.getD 0 undef]),(2,fun _=>undef)] (EnR Y0 (w.heap.size+1) (wrap64 (index+1+gap)) L) (fun _ _=>False) [6,8] rfl (by kernel_rfl) (by kernel_rfl) (by kernel_rfl) (by decide) (by decide) HY0.out.symm ?_ ?_ ?_
   ·simp only [StepsV,List.nil_append,List.cons_append,Nat.zero_add,Nat.reduceAdd]
    refine ⟨?_,?_,?_,?_,?_,?_,?_,?_,?_,trivial⟩
    ·skip
     intro ms X g1 g2 hx
     refine mM ?_
     generalize hR:(fun v w'=>(_→v=_)∧_)=RR
     have HR:=hid hR
     have HXX:=hid hx
     clear hR g1 g2 hx
     try refine mV ?_
     go_wp2_with fail
     have hR:=HR.out
     subst hR
     exact ⟨rfl,fun _=>rfl,HXX.out⟩
    ·skip
     intro ms X g1 g2 hx
     refine mM ?_
     generalize hR:(fun v w'=>(_→v=_)∧_)=RR
     have HR:=hid hR
     have HXX:=hid hx
     clear hR g1 g2 hx
     try refine mV ?_
     go_wp2_with fail
     have hR:=HR.out
     subst hR
     exact ⟨rfl,fun _=>rfl,HXX.out⟩
    ·skip
     intro ms X g1 g2 hx
     refine mM ?_
     generalize hR:(fun v w'=>(_→v=_)∧_)=RR
     have HR:=hid hR
     have HXX:=hid hx
     clear hR g1 g2 hx
     try refine mV ?_
     go_wp2_with fail
     have hR:=HR.out
     subst hR
     exact ⟨rfl,fun _=>rfl,HXX.out⟩
    ·skip
     intro ms X g1 g2 hx
     have hl1:ms.length≤1:=Nat.le_trans g2 (by decide +kernel)
     have bx:=(EnR.kept hx hl1 (Array.getElem?_eq_some_iff.1 HEY.out).1).trans HEY.out
     obtain ⟨-,⟨-,-,-,-,c9⟩,cl⟩:=box10 bx
     refine mM ?_
     generalize hR:(fun v w'=>(_→v=_)∧_)=RR
     have HR:=hid hR
     have HXX:=hid hx
     clear hR g1 g2 hx bx hl1
     try refine mV ?_
     go_wp2_with fail
     have hR:=HR.out
     subst hR
     exact ⟨rfl,fun _=>rfl,HXX.out⟩
    ·skip
     intro ms X g1 g2 hx
     refine mM ?_
     generalize hR:(fun v w'=>(_→v=_)∧_)=RR
     have HR:=hid hR
     have HXX:=hid hx
     clear hR g1 g2 hx
     try refine mV ?_
     go_wp2_with fail
     have hR:=HR.out
     subst hR
     exact ⟨rfl,fun _=>rfl,HXX.out⟩
    ·skip
     intro ms X g1 g2 hx
     have hl1:ms.length=0:=Nat.le_zero.1 (Nat.le_trans g2 (by decide +kernel))
     obtain rfl:=List.eq_nil_of_length_eq_zero hl1
     have bx:X.heap[S]? = _:=(show X=Y0 from hx) ▸ HSY.out
     obtain ⟨t0,t1,t2,t3,t4,t5⟩:=P.box6 bx
     have tl:=(Array.getElem?_eq_some_iff.1 bx).1
     refine mM ?_
     generalize hR:(fun v w'=>(_→v=_)∧_)=RR
     have HR:=hid hR
     have HXX:=hid hx
     clear hR g1 g2 hx bx hl1
     try refine mV ?_
     go_wp2_with fail
     have hR:=HR.out
     subst hR
     exact ⟨rfl,fun _=>rfl,HXX.out⟩
    ·skip
     intro ms X g1 g2 hx
     have hl:ms.length=0:=Nat.le_antisymm (Nat.le_trans g2 (by decide +kernel)) (Nat.le_trans (by decide +kernel) g1)
     obtain rfl:=P.ls0 hl
     obtain rfl:X=Y0:=hx
     refine mM ?_
     generalize hR:(fun v w'=>(_→v=_)∧_)=RR
     have HR:=hid hR
     clear hR g1 g2 hl
     refine mV ?_
     have HC:=hid (HDB.out)
     go_wp2_with fail
     refine HC.out.mono ?_
     rintro e X2 ⟨a,c,rfl,h3,h4⟩
     have HE:Hid (EnR X (w.heap.size+1) (wrap64 (index+1+gap)) L [.slice a L.length c] X2):=hid (⟨a,c,rfl,h3,h4⟩)
     clear HC
     go_wp2_with fail
     have hR:=HR.out
     subst hR
     exact ⟨rfl,fun _=>rfl,HE.out⟩
    ·skip
     intro ms X g1 g2 hx
     have hlk:ms.length=1:=Nat.le_antisymm (Nat.le_trans g2 (by decide +kernel)) (Nat.le_trans (by decide +kernel) g1)
     obtain ⟨v0,rfl⟩:=ls1 hlk
     obtain ⟨a9,c9,e9,-⟩:=id hx
     subst e9
     refine mM ?_
     generalize hR:(fun v w'=>(_→v=_)∧_)=RR
     have HR:=hid hR
     have HXX:=hid hx
     clear hR g1 g2 hx hlk
     try refine mV ?_
     go_wp2_with fail
     have hR:=HR.out
     subst hR
     exact ⟨rfl,fun _=>rfl,HXX.out⟩
    ·skip
     intro ms X g1 g2 hx
     have hlk:ms.length=1:=Nat.le_antisymm (Nat.le_trans g2 (by decide +kernel)) (Nat.le_trans (by decide +kernel) g1)
     obtain ⟨v0,rfl⟩:=ls1 hlk
     obtain ⟨a,c,rfl,h3,h4⟩:=hx
     have bx:=(h4.block _ (Array.getElem?_eq_some_iff.1 HRY.out).1).trans HRY.out
     obtain ⟨y0,y1,y2,y3,yl⟩:=box4 bx
     obtain ⟨e0,e1,e2,e3⟩:=fz4 bx
     refine mM ?_
     generalize hR:(fun v w'=>(_→v=_)∧_)=RR
     have HR2:=hid hR
     clear hR g1 g2 hlk bx
     refine mV ?_
     have HE':Hid (EnR Y0 (w.heap.size+1) (wrap64 (index+1+gap)) L [.slice a L.length c,undef] ((((X.setCell ⟨w.heap.size+1,0,none⟩ (.int .i64 (wrap64 (index+1+gap)))).setCell ⟨w.heap.size+1,1,none⟩ (.int .i64 0)).setCell ⟨w.heap.size+1,2,none⟩ (.int .i64 1)).setCell ⟨w.heap.size+1,3,none⟩ (.slice a L.length c))):=hid ⟨a,c,X,rfl,h3,h4,rfl⟩
     clear h3 h4
     go_wp2_with fail
     have hR:=HR2.out
     subst hR
     exact ⟨rfl,fun h=>absurd rfl h,HE'.out⟩
   ·intro ms X hl hx
    obtain ⟨v0,v1,rfl⟩:=ls2 hl
    obtain ⟨a,c,X1,rfl,h3,h4,hX⟩:=hx
    have bx:=(h4.block _ (Array.getElem?_eq_some_iff.1 HRY.out).1).trans HRY.out
    obtain ⟨r1,g1⟩:=set4 bx (.int .i64 (wrap64 (index+1+gap))) (.int .i64 0) (.int .i64 1) (.slice a L.length c)
    rw [←hX] at r1 g1
    have HF:=hid (show EnRet B w (.returned (.agg #[.int .i64 (wrap64 (index+1+gap)),.int .i64 0,.int .i64 1,.slice a L.length c])) X from by
     have hz:=HBY.out.size
     have hlt:=h3.lt
     have hrow:X.ownsRow Y0.heap.size 5 1 (.slice a L.length c) L.length (bCells L):=C.row_kept h3 fun g e=>g1.block g (hlt g e).2 fun e'=>by
      have h5:=(hlt g e).1;have h6:=(Array.getElem?_eq_some_iff.1 HRY.out).1;have:=Option.some.inj e';omega
     refine ⟨_,_,a,c,L,rfl,C.own_belowB rfl hrow HLB.out,fun p hp h0=>.inr ?_,(HBY.out.trans (h4.mono hz)).trans (grownZ g1 (by omega) (Nat.le_trans hz h4.size))⟩
     have:=(hlt p.block (by rw [hp];rfl)).1
     omega)
    obtain ⟨y0,y1,y2,y3,yl⟩:=box4 r1
    refine mV ?_
    clear hl hX h3 h4 bx r1 g1
    go_wp2_with fail
    refine bodyPost_ret (v:=.agg #[.int .i64 (wrap64 (index+1+gap)),.int .i64 0,.int .i64 1,.slice a L.length c]) (by simp [results,Tryz.results26,go_sem, *]) rfl ?_
    exact HF.out
   ·exact fun _ _ _ _ h=>h.elim
open Go.Proofs.YtdeeoddacnealaaGreat.C (CL newC)
open Go.Proofs.YtdeeoddacnealaaGreat.P (BelowB BRet docB docBytes_any docBytes_gen NumD bCells dec toD)

def oneX (g:Nat):SubV:=⟨1,1,0,none,0,[],none,0,[],some ⟨g,0,none⟩,1,[4607182418800017408]⟩
def oneL:P.Dt:=(1,1,0,[],[],[4607182418800017408])
theorem oneX_check (g:Nat):K.SubV.check (oneX g)=0:=by
 have h:K.SubV.check ⟨1,1,0,none,0,[],none,0,[],none,1,[4607182418800017408]⟩=0:=by decide +kernel
 exact h
theorem oneX_dec (g:Nat):dec (docB (oneX g))=some oneL:=by
 have h:=(P.enc_dec (oneX_check g)).1
 unfold P.encO at h
 rw [if_pos (oneX_check g),P.packB_dB] at h
 have e:docB (oneX g)=P.dB (toD (oneX g)):=by
  simp only [docB,P.dB,toD,P.rowK,P.rowS,P.keysB,List.length_map,List.flatMap_map,List.append_assoc]
 rw [e,h];rfl
def m0:MD:=⟨newC 4 4 0 0 0 0,[],0⟩
def m1:MD:=(applyS m0 1 oneL).1
def m2:MD:=(applyS m1 2 oneL).1
theorem step1:applyS m0 1 oneL=(m1,⟨1,1,0,1,true⟩,0):=by kernel_rfl
theorem step2:applyS m1 2 oneL=(m2,⟨1,1,0,1,false⟩,0):=by kernel_rfl
theorem m_facts:m1.ix=1∧m2.ix=2∧m2.c.count=1∧m2.c.horizon=0:=⟨by kernel_rfl,by kernel_rfl,by kernel_rfl,by kernel_rfl⟩
theorem apply0 {bs:List Nat} (h:dec bs=some oneL):applyD m0 1 1 bs=(m1,⟨1,1,0,1,true⟩,0):=by
 unfold applyD
 rw [if_neg (by decide),if_neg (by decide)]
 unfold applyB
 rw [h];exact step1
theorem apply1 {bs:List Nat} (h:dec bs=some oneL):applyD m1 2 1 bs=(m2,⟨1,1,0,1,false⟩,0):=by
 unfold applyD
 rw [m_facts.1,if_neg (by decide),if_neg (by decide)]
 unfold applyB
 rw [h];exact step2
theorem apply2 (bs:List Nat) (k:Int):applyD m2 5 k bs=(m2,aZero,60):=by
 unfold applyD
 rw [m_facts.2.1,if_pos (by decide)]
theorem belowB_at {w:World} {base:Nat} {a:Option Addr} {c:Nat} {xs:List Nat} (h:w.ownsRow base 5 1 (.slice a xs.length c) xs.length (bCells xs)) (hlt:∀ x∈xs,x<256) {w':World} (hb:Below w.heap.size w w'):BelowB w'.heap.size w' a c xs:=by
 have h1:=C.own_belowB rfl h hlt
 refine ⟨?_,h1.lt,h1.cap⟩
 rcases h1.row with h2|⟨b,o,h2,h3,h4⟩
 ·exact .inl h2
 ·exact .inr ⟨b,o,h2,Nat.lt_of_lt_of_le h3 hb.size,fun i hi=>(hb.cell (p:=⟨b,o+i,none⟩) h3).trans (h4 i hi)⟩
theorem belowB_frm {w w':World} {P P':Nat→Prop} {a:Option Addr} {c:Nat} {bs:List Nat} (h:BelowB w.heap.size w a c bs) (f:FrM P P' w w') (hP:∀ p,a=some p→¬P p.block):BelowB w'.heap.size w' a c bs:=by
 refine ⟨?_,h.lt,h.cap⟩
 rcases h.row with h1|⟨b,o,h1,h2,h3⟩
 ·exact .inl h1
 ·refine .inr ⟨b,o,h1,Nat.lt_of_lt_of_le h2 f.size,fun i hi=>?_⟩
  rw [←h3 i hi]
  unfold World.cell?
  rw [f.block b h2 (hP _ h1)]
set_option maxHeartbeats 4000000 in
set_option maxRecDepth 100000 in
theorem alive14_any (w:World):Calls Tryz.prog 24 #[] w (Ret (.bool true) w):=by
 go_enter Tryz.func24,Tryz.ntmps24
 go_wp2_with fail
 refine (mNew_any 4 4 w (by omega)).mono ?_
 rintro e w1 ⟨T,s0,rfl,hM,hb1,hd0,-,-⟩
 have hd0:s0.d=m0:=hd0
 have HM:=hid hM;have HB1:=hid hb1;have HD0:=hid hd0
 have hT:T<w1.heap.size:=hM.lt
 clear hM hb1 hd0
 go_upto_region 4 with fail
 obtain ⟨g,hg⟩:∃ g,g=w1.heap.size:=⟨_,rfl⟩
 have hb12:Below w1.heap.size w1 (w1.alloc (.cells #[.float .f64 4607182418800017408] 57)):=by exact below_auto
 have hrow:(w1.alloc (.cells #[.float .f64 4607182418800017408] 57)).heap[g]? = some (.cells #[.float .f64 4607182418800017408] 57 (0,0)):=by rw [hg];exact heap_alloc_new w1 _
 have hx:(oneX g).At (w1.alloc (.cells #[.float .f64 4607182418800017408] 57)):=by
  refine ⟨⟨.inl rfl,fun i hi=>absurd hi (Nat.not_lt_zero i),Nat.zero_le _⟩,⟨.inl rfl,fun i hi=>absurd hi (Nat.not_lt_zero i),Nat.zero_le _⟩,⟨.inr ⟨g,0,rfl,(Array.getElem?_eq_some_iff.1 hrow).1,fun i hi=>?_⟩,fun i hi=>?_,by unfold maxLen;show 1≤_;omega⟩⟩
  ·have hi:i<1:=hi
   obtain rfl:i=0:=by omega
   rw [cell_row hrow];rfl
  ·have hi:i<1:=hi
   obtain rfl:i=0:=by omega
   show (4607182418800017408:Nat)<_;omega
 have HBY:=hid (docBytes_any (oneX g) _ hx (oneX_check g))
 have hdoc:P.packB (P.valsOf (oneX g))=docB (oneX g):=by
  rw [P.packB_dB]
  simp only [docB,P.dB,toD,P.rowK,P.rowS,P.keysB,List.length_map,List.flatMap_map,List.append_assoc]
 rw [hdoc] at HBY
 have HBT:=hid (docB_byte (oneX g))
 have HDC:=hid (oneX_dec g)
 have HB2:=hid hb12
 rw [hg] at HBY HBT HDC
 generalize hL:docB (oneX w1.heap.size)=L at *
 have HBY':=hid (show Calls Tryz.prog 66 #[.agg #[.int .i64 1,.int .i64 1,.int .i64 0,.slice none 0 0,.slice none 0 0,.slice (some ⟨w1.heap.size,0,none⟩) 1 1]] (w1.alloc (.cells #[.float .f64 4607182418800017408] 57)) (BRet L (w1.alloc (.cells #[.float .f64 4607182418800017408] 57))) from HBY.out)
 clear hx hrow hdoc hL hg hb12 HBY
 go_wp2_with fail
 refine HBY'.out.mono ?_
 rintro e w3 ⟨a,c,rfl,ho3,hb3⟩
 have hb13:=HB2.out.trans (hb3.mono HB2.out.size)
 have hM3:=HM.out.below hb13
 have HBD:=hid fun W (hb:Below w3.heap.size w3 W)=>belowB_at ho3 HBT.out hb
 have hown:=ho3.lt
 have hfr:∀ p,(some p:Option Addr)=a→w1.heap.size<p.block:=fun p e=>by
  have:=(hown p.block (by rw [←e];rfl)).1
  simp at this;omega
 have HFRS:=hid hfr
 have HB3:=hid (HB1.out.trans (hb13.mono HB1.out.size))
 have HT:=hid (show w1.heap.size≤w3.heap.size from hb13.size)
 obtain ⟨n,hn⟩:∃ n,n=L.length:=⟨_,rfl⟩
 have HNL:=hid hn
 rw [←hn]
 have A1:=hid (show Calls Tryz.prog 25 #[.pointer (some ⟨T,0,none⟩),.agg #[.int .i64 1,.int .i64 0,.int .i64 1,.slice a n c]] w3 (ApRet w.heap.size T s0 (m1,⟨1,1,0,1,true⟩,0) w3) from by
  have h:=apply_any hM3 (show 0≤s0.d.ix∧s0.d.ix≤4611686018427387904 by rw [HD0.out];decide) 1 0 1 a c L (HBD.out _ (Below.refl _ _)) fun p hp _ e=>by have:=HFRS.out p hp.symm;omega
  rw [HD0.out,apply0 HDC.out,←HNL.out] at h
  exact h)
 have HMM3:=hid hM3
 have HOW:=hid (show ∀ k,w1.heap.size≤k→¬s0.own T k from fun k hk h0=>by have:=(HM.out.low h0).2;omega)
 clear hM3 hb3 hb13 ho3 hown hfr hn HM HB2 HBY'
 go_wp2_with fail
 refine A1.out.mono ?_
 rintro e w4 ⟨rfl,s1,hM4,hd4,hf4,-,-⟩
 simp only at hd4
 have hB4:=belowB_frm (HBD.out w3 (Below.refl _ _)) hf4 fun p hp=>HOW.out _ (by have:=HFRS.out p hp.symm;omega)
 have HOW4:=hid (show ∀ k,w1.heap.size≤k→k<w3.heap.size→¬s1.own T k from fun k hk hk3 h0=>HOW.out k hk ((hf4.own k hk3).1 h0))
 have hB04:=HB3.out.trans (HMM3.out.fr_below hf4)
 go_upto_region 6 with fail
 have q5:(w4.alloc (.cells #[.int .i64 1,.int .i64 1,.int .i64 0,.int .i64 1,.bool true] 70)).heap[w4.heap.size]? = some (.cells #[.int .i64 1,.int .i64 1,.int .i64 0,.int .i64 1,.bool true] 70 (0,0)):=heap_alloc_new w4 _
 have hb45:Below w4.heap.size w4 (w4.alloc (.cells #[.int .i64 1,.int .i64 1,.int .i64 0,.int .i64 1,.bool true] 70)):=by exact below_auto
 obtain ⟨X1,hX1⟩:∃ X,X=w4.heap.size:=⟨_,rfl⟩
 rw [←hX1] at q5 ⊢
 generalize hW5:World.alloc _ _=w5 at *
 have HX1:=hid hX1
 have hM5:=hM4.below hb45
 have hf35:=hf4.trans (FrM.of_below (s1.own T) hb45)
 have hB5:=belowB_frm hB4 (FrM.of_below (fun _=>False) hb45) (fun _ _ h=>h)
 have hx1:¬s1.own T X1:=fun h0=>by have:=(hM4.low h0).2;omega
 have hz3:=hf4.size
 have A2:=hid (show Calls Tryz.prog 25 #[.pointer (some ⟨T,0,none⟩),.agg #[.int .i64 2,.int .i64 0,.int .i64 1,.slice a n c]] w5 (ApRet w.heap.size T s1 (m2,⟨1,1,0,1,false⟩,0) w5) from by
  have h:=apply_any hM5 (show 0≤s1.d.ix∧s1.d.ix≤4611686018427387904 by rw [hd4,m_facts.1];decide) 2 0 1 a c L hB5 fun p hp _ e=>by have:=HFRS.out p hp.symm;omega
  rw [hd4,apply1 HDC.out,←HNL.out] at h
  exact h)
 have HB5:=hid (hB04.trans (hb45.mono hB04.size))
 have HM5:=hid hM5
 have HQ5:=hid q5;have HN5:=hid hx1
 clear hW5 hX1 hM5 hf35 hB5 hx1 hM4 hd4 hf4 hB4 hB04 hb45 q5 A1 hz3 HMM3
 go_wp2_with fail
 refine A2.out.mono ?_
 rintro e w6 ⟨rfl,s2,hM6,hd6,hf6,-,-⟩
 simp only at hd6
 have hB06:=HB5.out.trans (HM5.out.fr_below hf6)
 go_upto_region 7 with fail
 have q7:(w6.alloc (.cells #[.int .i64 1,.int .i64 1,.int .i64 0,.int .i64 1,.bool false] 70)).heap[w6.heap.size]? = some (.cells #[.int .i64 1,.int .i64 1,.int .i64 0,.int .i64 1,.bool false] 70 (0,0)):=heap_alloc_new w6 _
 have hb67:Below w6.heap.size w6 (w6.alloc (.cells #[.int .i64 1,.int .i64 1,.int .i64 0,.int .i64 1,.bool false] 70)):=by exact below_auto
 obtain ⟨X2,hX2⟩:∃ X,X=w6.heap.size:=⟨_,rfl⟩
 rw [←hX2] at q7 ⊢
 generalize hW7:World.alloc _ _=w7 at *
 have hM7:=hM6.below hb67
 have hl5:=(Array.getElem?_eq_some_iff.1 HQ5.out).1
 have q57:=(hb67.block X1 (Nat.lt_of_lt_of_le hl5 hf6.size)).trans ((hf6.block X1 hl5 HN5.out).trans HQ5.out)
 have hx1:¬s2.own T X1:=fun h0=>HN5.out ((hf6.own X1 hl5).1 h0)
 have hx2:¬s2.own T X2:=fun h0=>by have:=(hM6.low h0).2;omega
 have A3:=hid (show Calls Tryz.prog 25 #[.pointer (some ⟨T,0,none⟩),.agg #[.int .i64 5,.int .i64 0,.int .i64 0,.slice none 0 0]] w7 (ApRet w.heap.size T s2 (m2,aZero,60) w7) from by
  have h:=apply_any hM7 (show 0≤s2.d.ix∧s2.d.ix≤4611686018427387904 by rw [hd6,m_facts.2.1];decide) 5 0 0 none 0 [] ⟨.inl rfl,fun _ h=>(nomatch h),Nat.le_refl _⟩ fun p hp _=>nomatch hp
  rw [hd6,apply2] at h
  exact h)
 have HB7:=hid (hB06.trans (hb67.mono hB06.size))
 have HM7:=hid hM7
 have HQ7:=hid q7;have HQ57:=hid q57;have HN7:=hid (And.intro hx1 hx2)
 clear hW7 hX2 hM7 hx1 hx2 hM6 hd6 hf6 hB06 hb67 q7 q57 A2 hl5 HX1
 unfold aZero at A3
 go_wp2_with fail
 refine A3.out.mono ?_
 rintro e w8 ⟨rfl,s3,hM8,hd8,hf8,-,-⟩
 simp only at hd8
 have hB08:=HB7.out.trans (HM7.out.fr_below hf8)
 go_upto_region 8 with fail
 have hb89:Below w8.heap.size w8 (w8.alloc (.cells #[.int .i64 0,.int .i64 0,.int .i64 0,.int .i64 0,.bool false] 70)):=by exact below_auto
 generalize hW9:World.alloc _ _=w9 at *
 have hl7:=(Array.getElem?_eq_some_iff.1 HQ7.out).1
 have hl5:=(Array.getElem?_eq_some_iff.1 HQ57.out).1
 have qx1:=(hb89.block X1 (Nat.lt_of_lt_of_le hl5 hf8.size)).trans ((hf8.block X1 hl5 HN7.out.1).trans HQ57.out)
 have qx2:=(hb89.block X2 (Nat.lt_of_lt_of_le hl7 hf8.size)).trans ((hf8.block X2 hl7 HN7.out.2).trans HQ7.out)
 have hix:s3.ix=2:=(congrArg MD.ix hd8).trans m_facts.2.1
 have hct:s3.c.count=1:=(congrArg (fun m=>m.c.count) hd8).trans m_facts.2.2.1
 have hhz:s3.c.horizon=0:=(congrArg (fun m=>m.c.horizon) hd8).trans m_facts.2.2.2
 have hM9:=hM8.below hb89
 have I1:=hid fun W (hb:Below w9.heap.size w9 W)=>(show Calls Tryz.prog 27 #[.pointer (some ⟨T,0,none⟩)] W (Ret (.int .i64 2) W) from by have:=mIndex_any (hM9.below hb);rwa [hix] at this)
 have I2:=hid fun W (hb:Below w9.heap.size w9 W)=>(show Calls Tryz.prog 28 #[.pointer (some ⟨T,0,none⟩)] W (Ret (.int .i64 1) W) from by have:=mCount_any (hM9.below hb);rwa [hct] at this)
 have I3:=hid fun W (hb:Below w9.heap.size w9 W)=>(show Calls Tryz.prog 35 #[.pointer (some ⟨T,0,none⟩)] W (Ret (.int .i64 0) W) from by have:=mHorizon_any (hM9.below hb);rwa [hhz] at this)
 obtain ⟨⟨a0,a1,a2,a3,a4⟩,-,al⟩:=box5 qx1
 obtain ⟨⟨b0,b1,b2,b3,b4⟩,-,bl⟩:=box5 qx2
 have HB9:=hid (hB08.trans (hb89.mono hB08.size))
 clear hW9 hM8 hd8 hf8 hB08 hb89 hl7 hl5 qx1 qx2 hix hct hhz hM9 A3
 go_wp2_with (first|(go_at_call 27;with_reducible refine mQ (I1.out _ (by exact below_auto)) ?_;intro w21 hb21 hc21 hf21 hz21;intros)|(go_at_call 28;with_reducible refine mQ (I2.out _ (by exact below_auto)) ?_;intro w22 hb22 hc22 hf22 hz22;intros)|(go_at_call 35;with_reducible refine mQ (I3.out _ (by exact below_auto)) ?_;intro w23 hb23 hc23 hf23 hz23;intros))
 go_ret
 exact ⟨rfl,HB9.out.trans (Below.mono (by exact below_auto) HB9.out.size)⟩
open Go.Proofs.YtdeeoddacnealaaGreat.P (BelowB)

theorem keepI {p:Value→Prop} {L:Nat→Bool} {u:Nat→Value} {i j:Nat} {v:Value} (h:L j=true→p (u j)) (hv:j=i→p v):setI L i j=true→p (setU u i v j):=by
 intro hl
 by_cases e:j=i
 ·subst e;rw [setU_self];exact hv rfl
 ·rw [setU_ne e];exact h (by rwa [setI_ne e] at hl)
def ansA (a:AD):Array Value:=#[.int .i64 a.s0,.int .i64 a.s1,.int .i64 a.code,.int .i64 a.num,.bool a.fresh]
def tupV (r:AD×Int):Value:=.tuple #[.agg #[.int .i64 r.1.s0,.int .i64 r.1.s1,.int .i64 r.1.code,.int .i64 r.1.num,.bool r.1.fresh],.int .i64 r.2]
def ApD (s s':MS) (r:AD×Int):Prop:=∃ (ix kind:Int) (bs:List Nat),s'.d=(applyD s.d ix kind bs).1∧r=(applyD s.d ix kind bs).2
def EnOk (T:Nat) (v:Value) (X:World):Prop:=∃ (ix kind:Int) (a:Option Addr) (c:Nat) (bs:List Nat),v=.agg #[.int .i64 ix,.int .i64 0,.int .i64 kind,.slice a bs.length c]∧BelowB X.heap.size X a c bs∧∀ p,a=some p→bs≠[]→p.block≠T
theorem EnOk.below {T:Nat} {v:Value} {X X':World} (h:EnOk T v X) (hb:Below X.heap.size X X'):EnOk T v X':=by
 obtain ⟨ix,kind,a,c,bs,h1,h2,h3⟩:=h
 exact ⟨ix,kind,a,c,bs,h1,belowB_frm h2 (FrM.of_below (fun _=>False) hb) (fun _ _ h=>h),h3⟩
structure AR (B T:Nat) (s:MS) (opv:Value) (Y0:World) (s':MS) (L:Nat→Bool) (u:Nat→Value) (X:World):Prop where
 m:MAt B T s' X
 f:FrM (s.own T) (s'.own T) Y0 X
 v0:L 0=true→u 0=.pointer (some ⟨T,0,none⟩)
 v1:L 1=true→u 1=opv
 v2:L 2=true→u 2=.pointer (some ⟨T,0,none⟩)
 v3:L 3=true→u 3=.int .i64 s.ix
 v4:L 4=true→u 4=.pointer (some ⟨T,0,none⟩)
 v5:L 5=true→u 5=.int .i64 s.c.count
 c0:L 7=false→s'=s
 v6:L 6=true→L 7=false→EnOk T (u 6) X
 v7:L 7=true→∃ r,ApD s s' r∧u 7=tupV r
 v8:L 8=true→∃ r,ApD s s' r∧u 8=tupV r
 v9:L 9=true→∃ r,ApD s s' r∧u 9=.agg (ansA r.1)
 b:L 11=true→∃ b,u 11=.pointer (some ⟨b,0,none⟩)∧Y0.heap.size≤b∧b<X.heap.size∧¬s'.own T b∧((L 12=false∧X.heap[b]? = some (.cells (ansA aZero) 70 (0,0)))∨(L 12=true∧∃ r,ApD s s' r∧X.heap[b]? = some (.cells (ansA r.1) 70 (0,0))))
section
variable {B T : Nat} {s s' : MS} {opv : Value} {Y0 X X' : World} {L : Nat → Bool} {u : Nat → Value}
theorem AR.step (h:AR B T s opv Y0 s' L u X) (j:Nat) (v:Value) (hb:Below X.heap.size X X') (hj:j≠7∧j≠11∧j≠12) (h0:0=j→v=.pointer (some ⟨T,0,none⟩)) (h1:1=j→v=opv) (h2:2=j→v=.pointer (some ⟨T,0,none⟩)) (h3:3=j→v=.int .i64 s.ix) (h4:4=j→v=.pointer (some ⟨T,0,none⟩)) (h5:5=j→v=.int .i64 s.c.count)
  (h6:6=j→EnOk T v X') (h8:8=j→∃ r,ApD s s' r∧v=tupV r) (h9:9=j→∃ r,ApD s s' r∧v=.agg (ansA r.1)):AR B T s opv Y0 s' (setI L j) (setU u j v) X':=by
 refine ⟨h.m.below hb,h.f.trans (FrM.of_below _ hb),keepI (p:=(· = _)) h.v0 h0,keepI (p:=(· = _)) h.v1 h1,keepI (p:=(· = _)) h.v2 h2,keepI (p:=(· = _)) h.v3 h3,keepI (p:=(· = _)) h.v4 h4,keepI (p:=(· = _)) h.v5 h5,?_,?_,?_,keepI (p:=fun v=>∃ r,ApD s s' r∧v=tupV r) h.v8 h8,keepI (p:=fun v=>∃ r,ApD s s' r∧v=.agg (ansA r.1)) h.v9 h9,?_⟩
 ·rw [setI_ne hj.1.symm];exact h.c0
 ·rw [setI_ne hj.1.symm]
  intro a1 a2
  exact keepI (p:=fun v=>EnOk T v X') (fun hl=>(h.v6 hl a2).below hb) h6 a1
 ·rw [setI_ne hj.1.symm,setU_ne hj.1.symm];exact h.v7
 ·rw [setI_ne hj.2.1.symm,setU_ne hj.2.1.symm,setI_ne hj.2.2.symm]
  intro hl
  obtain ⟨b,e1,e2,e3,e4,e5⟩:=h.b hl
  refine ⟨b,e1,e2,Nat.lt_of_lt_of_le e3 hb.size,e4,?_⟩
  rcases e5 with ⟨k1,k2⟩|⟨k1,r,k2,k3⟩
  ·exact .inl ⟨k1,(hb.block b e3).trans k2⟩
  ·exact .inr ⟨k1,r,k2,(hb.block b e3).trans k3⟩
theorem AR.apply (h:AR B T s opv Y0 s' L u X) {s2:MS} {r:AD×Int} (h7:L 7=false) (h8:L 8=false) (h9:L 9=false) (h12:L 12=false) (hm:MAt B T s2 X') (hf:FrM (s'.own T) (s2.own T) X X') (hr:ApD s s2 r):AR B T s opv Y0 s2 (setI L 7) (setU u 7 (tupV r)) X':=by
 refine ⟨hm,h.f.trans hf,keepI (p:=(· = _)) h.v0 (fun e=>by omega),keepI (p:=(· = _)) h.v1 (fun e=>by omega),keepI (p:=(· = _)) h.v2 (fun e=>by omega),keepI (p:=(· = _)) h.v3 (fun e=>by omega),keepI (p:=(· = _)) h.v4 (fun e=>by omega),keepI (p:=(· = _)) h.v5 (fun e=>by omega),?_,?_,?_,?_,?_,?_⟩
 ·rw [setI_self];exact fun e=>nomatch e
 ·rw [setI_self];exact fun _ e=>nomatch e
 ·intro _;rw [setU_self];exact ⟨r,hr,rfl⟩
 ·rw [setI_ne (by omega),h8];exact fun e=>nomatch e
 ·rw [setI_ne (by omega),h9];exact fun e=>nomatch e
 ·rw [setI_ne (by omega),setU_ne (by omega),setI_ne (by omega),h12]
  intro hl
  obtain ⟨b,e1,e2,e3,e4,e5⟩:=h.b hl
  refine ⟨b,e1,e2,Nat.lt_of_lt_of_le e3 hf.size,fun h0=>e4 ((hf.own b e3).1 h0),.inl ⟨rfl,?_⟩⟩
  rcases e5 with ⟨_,k2⟩|⟨k1,_⟩
  ·exact (hf.block b e3 e4).trans k2
  ·rw [h12] at k1;cases k1
theorem AR.box (h:AR B T s opv Y0 s' L u X) (h12:L 12=false):AR B T s opv Y0 s' (setI L 11) (setU u 11 (.pointer (some ⟨X.heap.size,0,none⟩))) (X.alloc (.cells (ansA aZero) 70 (0,0))):=by
 have hb:Below X.heap.size X (X.alloc (.cells (ansA aZero) 70 (0,0))):=by exact below_auto
 refine ⟨h.m.below hb,h.f.trans (FrM.of_below _ hb),keepI (p:=(· = _)) h.v0 (fun e=>by omega),keepI (p:=(· = _)) h.v1 (fun e=>by omega),keepI (p:=(· = _)) h.v2 (fun e=>by omega),keepI (p:=(· = _)) h.v3 (fun e=>by omega),keepI (p:=(· = _)) h.v4 (fun e=>by omega),keepI (p:=(· = _)) h.v5 (fun e=>by omega),?_,?_,?_,?_,?_,?_⟩
 ·rw [setI_ne (by omega)];exact h.c0
 ·rw [setI_ne (by omega),setI_ne (by omega),setU_ne (by omega)];exact fun a1 a2=>(h.v6 a1 a2).below hb
 ·rw [setI_ne (by omega),setU_ne (by omega)];exact h.v7
 ·rw [setI_ne (by omega),setU_ne (by omega)];exact h.v8
 ·rw [setI_ne (by omega),setU_ne (by omega)];exact h.v9
 ·intro _
  rw [setU_self,setI_ne (by omega),h12]
  exact ⟨_,rfl,h.f.size,by simp,fun h0=>Nat.lt_irrefl _ (h.m.low h0).2,.inl ⟨rfl,heap_alloc_new X _⟩⟩
theorem AR.store (h:AR B T s opv Y0 s' L u X) {b:Nat} {r:AD×Int} (hu:u 11=.pointer (some ⟨b,0,none⟩)) (h11:L 11=true) (h12:L 12=false) (hr:ApD s s' r) {v:Value} (hX:X'.heap[b]? = some (.cells (ansA r.1) 70 (0,0))) (hg:X.grownBy X' (some b)) (hT:T<Y0.heap.size) (hE:L 7=true):AR B T s opv Y0 s' (setI L 12) (setU u 12 v) X':=by
 obtain ⟨b',e1,e2,e3,e4,e5⟩:=h.b h11
 rw [hu] at e1
 obtain rfl:b=b':=by cases e1;rfl
 refine ⟨h.m.keep hg.size fun k hk h0=>hg.block k hk fun e=>by cases e;exact e4 h0,⟨hg.os.trans h.f.os,hg.tape.trans h.f.tape,hg.output.trans h.f.output,Nat.le_trans h.f.size hg.size,fun k hk h0=>(hg.block k (Nat.lt_of_lt_of_le hk h.f.size) fun e=>by cases e;omega).trans (h.f.block k hk h0),h.f.own⟩,keepI (p:=(· = _)) h.v0 (fun e=>by omega),keepI (p:=(· = _)) h.v1 (fun e=>by omega),keepI (p:=(· = _)) h.v2 (fun e=>by omega),keepI (p:=(· = _)) h.v3 (fun e=>by omega),keepI (p:=(· = _)) h.v4 (fun e=>by omega),keepI (p:=(· = _)) h.v5 (fun e=>by omega),?_,?_,?_,?_,?_,?_⟩
 ·rw [setI_ne (by omega)];exact h.c0
 ·rw [setI_ne (by omega),setI_ne (by omega),hE];exact fun _ e=>nomatch e
 ·rw [setI_ne (by omega),setU_ne (by omega)];exact h.v7
 ·rw [setI_ne (by omega),setU_ne (by omega)];exact h.v8
 ·rw [setI_ne (by omega),setU_ne (by omega)];exact h.v9
 ·rw [setI_self,setI_ne (by omega),setU_ne (by omega)]
  exact fun _=>⟨b,hu,e2,Nat.lt_of_lt_of_le e3 hg.size,e4,.inr ⟨rfl,r,hr,hX⟩⟩
end
open Go.Proofs.YtdeeoddacnealaaGreat.C (CL newC row_kept)

def noOp:OpV:=⟨⟨0,0,0,none,0,[],none,0,[],none,0,[]⟩,false,0,none,0,[],0⟩
def OpV.cells (o:OpV):List Value:=[.int .i64 o.x.s0,.int .i64 o.x.s1,.int .i64 o.x.s2,.slice o.x.ra o.x.rs.length o.x.rc,.slice o.x.sa o.x.ss.length o.x.sc,.slice o.x.wa o.x.ws.length o.x.wc,.bool o.raw,.int .i64 o.kind,.slice o.a o.bs.length o.c,.int .i64 o.gap]
structure OqAt (w:World) (a:Option Addr) (ops:List OpV):Prop where
 row:ops=[]∨∃ b o,a=some ⟨b,o,none⟩∧b<w.heap.size∧∀ i,i<ops.length→∀ t v,(OpV.cells (ops[i]?.getD noOp))[t]? = some v→w.cell? ⟨b,o+i * 10+t,none⟩=some v
 sub:∀ i,i<ops.length→(ops[i]?.getD noOp).At w.heap.size w
theorem OqAt.get {w w':World} {a:Option Addr} {ops:List OpV} (h:OqAt w a ops) (hb:Below w.heap.size w w') {k:Nat} (hk:k<ops.length):∃ b o,a=some ⟨b,o,none⟩∧b<w'.heap.size∧∀ t v,(OpV.cells (ops[k]?.getD noOp))[t]? = some v→w'.cell? ⟨b,o+k * 10+t,none⟩=some v:=by
 rcases h.row with h1|⟨b,o,h1,h2,h3⟩
 ·rw [h1] at hk;exact absurd hk (Nat.not_lt_zero _)
 ·exact ⟨b,o,h1,Nat.lt_of_lt_of_le h2 hb.size,fun t v hv=>(hb.cell (p:=⟨b,_,none⟩) h2).trans (h3 k hk t v hv)⟩
def fEnc (f:AD):List Value:=[.int .i64 f.s0,.int .i64 f.s1,.int .i64 f.code,.int .i64 f.num,.bool f.fresh]
theorem fEnc5 (f:AD):(fEnc f).length=5:=rfl
theorem fEnc_one (f:AD):∀ u∈fEnc f,u.oneCell'=true:=by intro u hu;simp [fEnc] at hu;rcases hu with rfl|rfl|rfl|rfl|rfl <;> rfl
def fCells (F:List AD):List Value:=F.flatMap fEnc
theorem ansInfo:(Tryz.prog.info? 70).map (fun i=>(i.zero,i.size,i.bytes))=some (some (.agg #[.int .i64 0,.int .i64 0,.int .i64 0,.int .i64 0,.bool false]),5,40):=by kernel_rfl
structure FRow (B:Nat) (Q:Nat→Prop) (a:Option Addr) (n c:Nat) (F:List AD) (w:World):Prop where
 own:w.ownsRow B 70 5 (.slice a n c) n (fCells F)
 len:F.length=n
 free:∀ g,(Value.slice a n c).ownBlock=some g→¬Q g
theorem FRow.below {B:Nat} {Q:Nat→Prop} {a:Option Addr} {n c:Nat} {F:List AD} {w w':World} (h:FRow B Q a n c F w) (hb:Below w.heap.size w w'):FRow B Q a n c F w' :=
 ⟨row_kept h.own fun g e=>hb.block g (h.own.lt g e).2,h.len,h.free⟩
theorem FRow.frm {B:Nat} {Q Q':Nat→Prop} {a:Option Addr} {n c:Nat} {F:List AD} {w w':World} (h:FRow B Q a n c F w) (f:FrM Q Q' w w'):FRow B Q' a n c F w' :=
 ⟨row_kept h.own fun g e=>f.block g (h.own.lt g e).2 (h.free g e),h.len,fun g e h0=>h.free g e ((f.own g (h.own.lt g e).2).1 h0)⟩
theorem FRow.get {B:Nat} {Q:Nat→Prop} {a:Option Addr} {n c:Nat} {F:List AD} {w:World} (h:FRow B Q a n c F w) {k:Nat} (hk:k<n) {f:AD} (hf:F[k]? = some f):∃ g,a=some ⟨g,0,none⟩∧g<w.heap.size ∧
  w.cell? ⟨g,k * 5,none⟩=some (.int .i64 f.s0)∧w.cell? ⟨g,k * 5+1,none⟩=some (.int .i64 f.s1)∧w.cell? ⟨g,k * 5+2,none⟩=some (.int .i64 f.code)∧w.cell? ⟨g,k * 5+3,none⟩=some (.int .i64 f.num)∧w.cell? ⟨g,k * 5+4,none⟩=some (.bool f.fresh):=by
 rcases h.own.2 with ⟨_,h2⟩|⟨g,cap,cur,h1,h2,h3,_⟩
 ·omega
 ·cases h1
  have hc:=h.own.cells (g:=g) rfl
  have key:∀ t v,(fEnc f)[t]? = some v→w.cell? ⟨g,k * 5+t,none⟩=some v:=fun t v hv=>by
   have ht:t<5:=(List.getElem?_eq_some_iff.1 hv).1
   have:=hc (k * 5+t) v ((flat_get fEnc5 hf ht).trans hv)
   rw [K.addr0] at this
   exact this
  exact ⟨g,rfl,(Array.getElem?_eq_some_iff.1 h3).1,key 0 _ rfl,key 1 _ rfl,key 2 _ rfl,key 3 _ rfl,key 4 _ rfl⟩
theorem app_f {w:World} {B T:Nat} {s:MS} {a:Option Addr} {n c:Nat} {F:List AD} (f:AD) (h:FRow B (s.own T) a n c F w) (hM:MAt B T s w) (hB:B≤w.heap.size) (hl:n≤2000000) :
  ∃ a' c' w',(∀ ty,(Builtin.append_ #[66,66] ty #[.slice a n c,.slice (some ⟨w.heap.size,0,none⟩) 1 1]).run Tryz.prog (w.alloc (.cells #[.int .i64 f.s0,.int .i64 f.s1,.int .i64 f.code,.int .i64 f.num,.bool f.fresh] 70))=.ok (.slice a' (n+1) c') w')∧FRow B (s.own T) a' (n+1) c' (F++[f]) w'∧MAt B T s w'∧Below B w w'∧w.grownBy w' (Value.slice a n c).ownBlock:=by
 obtain ⟨i0,hi0,hz0,hzs,hzb⟩:=info_parts ansInfo
 have hb1:Below w.heap.size w (w.alloc (.cells #[.int .i64 f.s0,.int .i64 f.s1,.int .i64 f.code,.int .i64 f.num,.bool f.fresh] 70)):=by exact below_auto
 have h1:=h.below hb1
 have hM1:=hM.below hb1
 have hrow:(w.alloc (.cells #[.int .i64 f.s0,.int .i64 f.s1,.int .i64 f.code,.int .i64 f.num,.bool f.fresh] 70)).heap[w.heap.size]? = some (.cells #[.int .i64 f.s0,.int .i64 f.s1,.int .i64 f.code,.int .i64 f.num,.bool f.fresh] 70 (0,0)):=heap_alloc_new w _
 have hsz:=hb1.size
 generalize w.alloc (.cells #[.int .i64 f.s0,.int .i64 f.s1,.int .i64 f.code,.int .i64 f.num,.bool f.fresh] 70)=w1 at *
 obtain ⟨v',w',hr,h2,h3⟩:=run_append_own2 (P:=Tryz.prog) w1 B 66 70 i0 _ 5 40 Tryz.underlying66 hi0 hz0 hzs hzb rfl (by omega) _ _ _ h1.own ⟨w.heap.size,0,none⟩ 1 1 (fEnc f) (by rw [fEnc5])
  (fun j u hj=>by rw [K.addr0,cell_row hrow];simpa [fEnc] using hj) (fEnc_one f) (by omega) (by unfold maxLen;omega) (by omega) (by omega)
 have hc:fCells F++fEnc f=fCells (F++[f]):=by simp [fCells]
 rw [hc] at h2
 have hv:∃ va vc,v'=.slice va (n+1) vc:=by
  rcases h2.2 with ⟨rfl,h4⟩|⟨g,cap,cur,rfl,_⟩
  ·omega
  ·exact ⟨_,_,rfl⟩
 obtain ⟨a',c',rfl⟩:=hv
 have gg:w.grownBy w' (Value.slice a n c).ownBlock:=⟨h3.1.os.trans hb1.os,h3.1.tape.trans hb1.tape,h3.1.output.trans hb1.output,Nat.le_trans hsz h3.1.size,fun k hk hn=>(h3.1.block k (Nat.lt_of_lt_of_le hk hsz) hn).trans (hb1.block k hk)⟩
 refine ⟨a',c',w',hr,⟨h2,by rw [List.length_append,h.len];rfl,fun g hg=>?_⟩,hM1.keep h3.1.size fun k hk h0=>h3.1.block k hk fun e=>h.free k e.symm h0,?_,gg⟩
 ·rcases h3.2 with h4|h4|⟨g',h4,h5⟩
  ·exact h.free g (by rw [←h4];exact hg)
  ·rw [h4] at hg;cases hg
  ·rw [h4] at hg;cases hg;exact fun h0=>by have:=(hM1.low h0).2;omega
 ·exact (Below.refl B w).grown gg hB fun k hk=>(h.own.lt k hk).1
theorem set5f {w:World} {b:Nat} {x0 x1 x2 x3 x4:Value} {t:TypeId} (h:w.heap[b]? = some (.cells #[x0,x1,x2,x3,x4] t (0,0))) (v0 v1 v2 v3 v4:Value) :
  (((((w.setCell ⟨b,0,none⟩ v0).setCell ⟨b,1,none⟩ v1).setCell ⟨b,2,none⟩ v2).setCell ⟨b,3,none⟩ v3).setCell ⟨b,4,none⟩ v4).heap[b]? = some (.cells #[v0,v1,v2,v3,v4] t (0,0))∧w.grownBy (((((w.setCell ⟨b,0,none⟩ v0).setCell ⟨b,1,none⟩ v1).setCell ⟨b,2,none⟩ v2).setCell ⟨b,3,none⟩ v3).setCell ⟨b,4,none⟩ v4) (some b):=by
 obtain ⟨q0,k0⟩:=K.set1 (i:=0) h v0
 obtain ⟨q1,k1⟩:=K.set1 (i:=1) q0 v1
 obtain ⟨q2,k2⟩:=K.set1 (i:=2) q1 v2
 obtain ⟨q3,k3⟩:=K.set1 (i:=3) q2 v3
 obtain ⟨q4,k4⟩:=K.set1 (i:=4) q3 v4
 exact ⟨q4,(((k0.trans k1).trans k2).trans k3).trans k4⟩
theorem look_five {t:List SD} {id seq:Int} (h:(lookT t id seq).1=5):1≤id∧id≤1099511627776:=by
 unfold lookT at h
 by_cases h1:(okN id && okN seq)=false
 ·rw [if_pos h1] at h;cases h
 ·have h2:okN id=true∧okN seq=true:=by simpa using h1
  exact okN_iff.1 h2.1
set_option maxHeartbeats 8000000 in
set_option maxRecDepth 100000 in
theorem machineOnce_walk (keep old:Int) (a:Option Addr) (cp:Nat) (ops:List OpV) (w:World) (_hk:-9223372036854775808≤keep∧keep≤9223372036854775807) (ho:-9223372036854775808≤old∧old≤9223372036854775807) (hx:OqAt w a ops) (hlen:ops.length≤1048576) (_hc:ops.length≤cp) :
  Calls Tryz.prog 4 #[.int .i64 keep,.int .i64 old,.slice a ops.length cp] w (Ret (.bool true) w):=by
 have HX:=hid hx
 obtain ⟨n,hn⟩:∃ n,n=ops.length:=⟨_,rfl⟩
 have HN:=hid hn
 rw [←hn] at hlen ⊢
 clear hx hn
 have HNew:=hid (mNew_any keep old w ho)
 obtain ⟨kp,hkp⟩:∃ kp,kp=min (max keep 1) 32:=⟨_,rfl⟩
 rw [←hkp] at HNew
 clear hkp
 go_enter Tryz.func4,Tryz.ntmps4
 go_wp2_with fail
 refine HNew.out.mono ?_
 rintro e w1 ⟨T,s0,rfl,hM1,hb1,hd1,-,-⟩
 clear HNew
 go_wp2_with fail
 refine (alive14_any w1).mono ?_
 rintro e w2 ⟨rfl,hb2⟩
 have HM2:=hid (hM1.below hb2)
 have hb02:=hb1.trans (hb2.mono hb1.size)
 have HF2:=hid (show FRow w.heap.size (s0.own T) (some ⟨w2.heap.size,0,none⟩) 0 0 [] (w2.alloc (.cells #[] 70)) from
  ⟨⟨rfl,.inr ⟨w2.heap.size,0,#[],rfl,hb02.size,heap_alloc_new w2 _,Nat.le_refl _,by unfold maxLen;omega,by simp,by simp [fCells]⟩⟩,rfl,fun g e=>by
   cases e;exact fun h0=>Nat.lt_irrefl _ (HM2.out.low h0).2⟩)
 have HM2':=hid (HM2.out.below (w':=w2.alloc (.cells #[] 70)) (by exact below_auto))
 have hz2:=hb02.size
 have hb02':Below w.heap.size w (w2.alloc (.cells #[] 70)):=by exact below_auto
 have HO0:=hid (show Once s0.d [] 0 from by rw [hd1];exact ⟨TInv.nil,(fun _ h=>nomatch h),(fun _ h=>nomatch h),rfl⟩)
 have HIX:=hid (show s0.ix=0 from congrArg MD.ix hd1)
 clear hM1 hb1 hb2 hd1
 go_upto_region 7 with fail
 go_loopw [8,9,31] (fun t8 t9 t31 wr=>∃ (k n8 c8:Nat) (a8:Option Addr) (cnt:Int) (s:MS) (F:List AD),t8=.slice a8 n8 c8∧t9=.int .i64 cnt∧t31=.int .i64 (k:Nat)∧k≤n∧n8≤k∧(0≤cnt∧cnt≤k)∧Hid (FRow w.heap.size (s.own T) a8 n8 c8 F wr)∧Hid (MAt w.heap.size T s wr)∧Hid (Once s.d F cnt)∧Hid (0≤s.ix∧s.ix≤k)∧Below w.heap.size w wr) (fun _ _ t31 _=>n-(intOf t31).toNat)
 case atStart=>exact ⟨0,0,0,_,0,s0,[],rfl,rfl,rfl,Nat.zero_le _,Nat.le_refl _,by omega,HF2,HM2',HO0,hid (by rw [HIX.out];omega),hb02'⟩
 case round =>
  obtain ⟨k,n8,c8,a8,cnt,s,F,rfl,rfl,rfl,hk,hn8,hcnt,HF,HM,HO,HI,hbw⟩:=hrel
  clear HF2 HM2 HM2' HO0 HIX hb02 hb02' hz2
  by_cases hlt:k<n
  ·have hlt':(k:Int)<(n:Int):=by omega
   obtain ⟨gb,go,rfl,hgb,hcs⟩:=HX.out.get hbw (k:=k) (by rw [←HN.out];exact hlt)
   have hA:=HX.out.sub k (by rw [←HN.out];exact hlt)
   generalize ops[k]?.getD noOp=op at *
   obtain ⟨x,raw,kind,da,dc,bs,gap⟩:=op
   have d0:=hcs 0 _ rfl;have d1:=hcs 1 _ rfl;have d2:=hcs 2 _ rfl;have d3:=hcs 3 _ rfl;have d4:=hcs 4 _ rfl;have d5:=hcs 5 _ rfl;have d6:=hcs 6 _ rfl;have d7:=hcs 7 _ rfl;have d8:=hcs 8 _ rfl;have d9:=hcs 9 _ rfl
   simp only [Nat.add_zero] at d0 d1 d2 d3 d4 d5 d6 d7 d8 d9
   clear hcs
   go_upto_region 9 with fail
   generalize hW3:World.alloc wr _=w3
   have hb3:Below wr.heap.size wr w3:=by rw [←hW3];exact below_auto
   have q0:w3.heap[wr.heap.size]? = some (.cells #[.int .i64 x.s0,.int .i64 x.s1,.int .i64 x.s2,.slice x.ra x.rs.length x.rc,.slice x.sa x.ss.length x.sc,.slice x.wa x.ws.length x.wc,.bool raw,.int .i64 kind,.slice da bs.length dc,.int .i64 gap] 68 (0,0)):=by rw [←hW3];exact heap_alloc_new wr _
   obtain ⟨S,hS⟩:∃ S,S=wr.heap.size:=⟨_,rfl⟩
   have hnS:¬s.own T S:=fun h0=>by have:=(HM.out.low h0).2;omega
   have hM3:=HM.out.below hb3
   have hF3:=HF.out.below hb3
   have hb03:=hbw.trans (hb3.mono hbw.size)
   rw [←hS] at q0 ⊢
   have hST:T≠S:=fun e=>hnS (by rw [←e];exact .inr (.inr rfl))
   clear d0 d1 d2 d3 d4 d5 d6 d7 d8 d9 hW3 hb3 hS hgb
   obtain ⟨Y0,hY0⟩:∃ Y:World,Y = { w3 with drawn:=w3.drawn+1 }:=⟨_,rfl⟩
   have hb0:Below w3.heap.size w3 Y0:=by rw [hY0];exact Below.drew (Below.refl _ _)
   have hMY:=hM3.below hb0
   have HFY:=hid (hF3.below hb0)
   have hbY:=hb03.trans (hb0.mono hb03.size)
   have hqY:=(hb0.block _ (Array.getElem?_eq_some_iff.1 q0).1).trans q0
   have hTY:T<Y0.heap.size:=hMY.lt
   have HAW:=hid fun W (hb:Below w.heap.size w W)=>(show (⟨x,raw,kind,da,dc,bs,gap⟩:OpV).At w.heap.size W from ⟨hA.x.below hb,hA.num,hA.len,belowB_below hA.dat (Nat.le_refl _) hb⟩)
   have HBY:=hid hbY;have HQY:=hid hqY;have HMY:=hid hMY;have HNS:=hid hnS
   have HY0:=hid hY0
   have hcb:0≤s.c.count∧s.c.count≤1099511627776:=by have:=HM.out.cert.cnt;omega
   have hib:0≤s.ix∧s.ix≤4611686018427387904:=by have:=HI.out;omega
   have HCB:=hid hcb;have HIB:=hid hib
   clear hM3 hF3 hb03 q0 hY0 hb0 hMY hbY hqY hA hnS hcb hib hbw HM HF
   obtain ⟨opv,hopv⟩:∃ v,v=Value.agg #[.int .i64 x.s0,.int .i64 x.s1,.int .i64 x.s2,.slice x.ra x.rs.length x.rc,.slice x.sa x.ss.length x.sc,.slice x.wa x.ws.length x.wc,.bool raw,.int .i64 kind,.slice da bs.length dc,.int .i64 gap]:=⟨_,rfl⟩
   have HOP:=hid hopv
   clear hopv
   refine wp_region_inv (fun L u X=>∃ s',AR w.heap.size T s opv Y0 s' L u X) (fun _ _=>False) rfl (by kernel_rfl) (by kernel_rfl) ⟨s,by rw [←HY0.out];exact HMY.out,by rw [←HY0.out];exact FrM.of_below _ (Below.refl _ _),(fun h=>nomatch h),(fun h=>nomatch h),(fun h=>nomatch h),(fun h=>nomatch h),(fun h=>nomatch h),(fun h=>nomatch h),fun _=>rfl,(fun h=>nomatch h),(fun h=>nomatch h),(fun h=>nomatch h),(fun h=>nomatch h),(fun h=>nomatch h)⟩ ?_ ?_ ?_
   ·simp only [StepsI,List.nil_append,List.cons_append,Nat.zero_add,Nat.reduceAdd]
    refine ⟨?p0,?p1,?p2,?p3,?p4,?p5,?p6,?p7,?p8,?p9,?p10,?p11,?p12,?p13,trivial⟩
    case p0 =>
     intro L u X hdep hlat hLi hx
     obtain ⟨s',hx⟩:=hx
     have HXX:=hid hx
     generalize hR:(fun v w'=>∃ s'',AR _ _ _ _ _ s'' (setI L _) (setU u _ (gotI _ v)) w')=RR
     have HR:=hid hR
     clear hR hx hdep hlat
     simp only [putsFrom,Act.put,qA,qB,qC,Nat.zero_add,Nat.reduceAdd]
     go_wp2_with fail
     have hR:=HR.out
     subst hR
     exact ⟨rfl,s',HXX.out.step 0 _ (Below.refl _ _) (by decide) (fun _=>rfl) (fun e=>by omega) (fun e=>by omega) (fun e=>by omega) (fun e=>by omega) (fun e=>by omega) (fun e=>by omega) (fun e=>by omega) (fun e=>by omega)⟩
    case p1 =>
     intro L u X hdep hlat hLi hx
     obtain ⟨s',hx⟩:=hx
     have bx:=(hx.f.block S (Array.getElem?_eq_some_iff.1 HQY.out).1 HNS.out).trans HQY.out
     obtain ⟨⟨c0,c1,c2,c3,c4⟩,⟨c5,c6,c7,c8,c9⟩,cl⟩:=box10 bx
     clear bx
     have HXX:=hid hx
     generalize hR:(fun v w'=>∃ s'',AR _ _ _ _ _ s'' (setI L _) (setU u _ (gotI _ v)) w')=RR
     have HR:=hid hR
     clear hR hx hdep hlat
     simp only [putsFrom,Act.put,qA,qB,qC,Nat.zero_add,Nat.reduceAdd]
     go_wp2_with fail
     have hR:=HR.out
     subst hR
     exact ⟨rfl,s',HXX.out.step 1 _ (Below.refl _ _) (by decide) (fun e=>by omega) (fun _=>HOP.out.symm) (fun e=>by omega) (fun e=>by omega) (fun e=>by omega) (fun e=>by omega) (fun e=>by omega) (fun e=>by omega) (fun e=>by omega)⟩
    case p2 =>
     intro L u X hdep hlat hLi hx
     obtain ⟨s',hx⟩:=hx
     have HXX:=hid hx
     generalize hR:(fun v w'=>∃ s'',AR _ _ _ _ _ s'' (setI L _) (setU u _ (gotI _ v)) w')=RR
     have HR:=hid hR
     clear hR hx hdep hlat
     simp only [putsFrom,Act.put,qA,qB,qC,Nat.zero_add,Nat.reduceAdd]
     go_wp2_with fail
     have hR:=HR.out
     subst hR
     exact ⟨rfl,s',HXX.out.step 2 _ (Below.refl _ _) (by decide) (fun e=>by omega) (fun e=>by omega) (fun _=>rfl) (fun e=>by omega) (fun e=>by omega) (fun e=>by omega) (fun e=>by omega) (fun e=>by omega) (fun e=>by omega)⟩
    case p3 =>
     intro L u X hdep hlat hLi hx
     obtain ⟨s',hx⟩:=hx
     have e2:=hx.v2 (hdep 2 (by decide +kernel))
     have hL7:L 7=false:=hlat 7 (by decide +kernel)
     have hss:=hx.c0 hL7
     have HC:=hid (hss ▸ mIndex_any hx.m)
     have HXX:=hid hx
     generalize hR:(fun v w'=>∃ s'',AR _ _ _ _ _ s'' (setI L _) (setU u _ (gotI _ v)) w')=RR
     have HR:=hid hR
     clear hR hx hdep hlat
     simp only [putsFrom,Act.put,qA,qB,qC,Nat.zero_add,Nat.reduceAdd]
     simp only [e2]
     clear e2
     go_wp2_with (go_at_call 27;with_reducible refine mQ (HC.out) ?_;intro w9 hb9 hc9 hf9 hz9;intros)
     have hR:=HR.out
     subst hR
     exact ⟨rfl,s',HXX.out.step 3 _ hb9 (by decide) (fun e=>by omega) (fun e=>by omega) (fun e=>by omega) (fun _=>rfl) (fun e=>by omega) (fun e=>by omega) (fun e=>by omega) (fun e=>by omega) (fun e=>by omega)⟩
    case p4 =>
     intro L u X hdep hlat hLi hx
     obtain ⟨s',hx⟩:=hx
     have HXX:=hid hx
     generalize hR:(fun v w'=>∃ s'',AR _ _ _ _ _ s'' (setI L _) (setU u _ (gotI _ v)) w')=RR
     have HR:=hid hR
     clear hR hx hdep hlat
     simp only [putsFrom,Act.put,qA,qB,qC,Nat.zero_add,Nat.reduceAdd]
     go_wp2_with fail
     have hR:=HR.out
     subst hR
     exact ⟨rfl,s',HXX.out.step 4 _ (Below.refl _ _) (by decide) (fun e=>by omega) (fun e=>by omega) (fun e=>by omega) (fun e=>by omega) (fun _=>rfl) (fun e=>by omega) (fun e=>by omega) (fun e=>by omega) (fun e=>by omega)⟩
    case p5 =>
     intro L u X hdep hlat hLi hx
     obtain ⟨s',hx⟩:=hx
     have e4:=hx.v4 (hdep 4 (by decide +kernel))
     have hL7:L 7=false:=hlat 7 (by decide +kernel)
     have hss:=hx.c0 hL7
     have HC:=hid (hss ▸ mCount_any hx.m)
     have HXX:=hid hx
     generalize hR:(fun v w'=>∃ s'',AR _ _ _ _ _ s'' (setI L _) (setU u _ (gotI _ v)) w')=RR
     have HR:=hid hR
     clear hR hx hdep hlat
     simp only [putsFrom,Act.put,qA,qB,qC,Nat.zero_add,Nat.reduceAdd]
     simp only [e4]
     clear e4
     go_wp2_with (go_at_call 28;with_reducible refine mQ (HC.out) ?_;intro w9 hb9 hc9 hf9 hz9;intros)
     have hR:=HR.out
     subst hR
     exact ⟨rfl,s',HXX.out.step 5 _ hb9 (by decide) (fun e=>by omega) (fun e=>by omega) (fun e=>by omega) (fun e=>by omega) (fun e=>by omega) (fun _=>rfl) (fun e=>by omega) (fun e=>by omega) (fun e=>by omega)⟩
    case p6 =>
     intro L u X hdep hlat hLi hx
     obtain ⟨s',hx⟩:=hx
     have e1:=hx.v1 (hdep 1 (by decide +kernel))
     have e3:=hx.v3 (hdep 3 (by decide +kernel))
     have e5:=hx.v5 (hdep 5 (by decide +kernel))
     rw [HOP.out] at e1
     have hbX:=HBY.out.trans (HMY.out.fr_below hx.f)
     have HEN:=hid (entry_any ⟨x,raw,kind,da,dc,bs,gap⟩ s.ix s.c.count (HAW.out X hbX) hbX.size HCB.out HIB.out)
     have hTl:=HMY.out.lo.1
     have hTX:=Nat.lt_of_lt_of_le hTY hx.f.size
     have HTT:=hid (And.intro hTl hTX)
     clear hbX hTl hTX
     have HXX:=hid hx
     generalize hR:(fun v w'=>∃ s'',AR _ _ _ _ _ s'' (setI L _) (setU u _ (gotI _ v)) w')=RR
     have HR:=hid hR
     clear hR hx hdep hlat
     simp only [putsFrom,Act.put,qA,qB,qC,Nat.zero_add,Nat.reduceAdd]
     simp only [e1,e3,e5]
     clear e1
     clear e3
     clear e5
     go_wp2_with (go_at_call 26;(with_reducible refine HEN.out.mono ?_);rintro e w9 ⟨ix,kd,ea,ec,eb,rfl,h1,h2,h3⟩;have HH1:=hid h1;have HH2:=hid h2;clear h1 h2;refine mB h3 ?_;intro hc9 hf9 hz9;intros)
     have hR:=HR.out
     subst hR
     exact ⟨rfl,s',HXX.out.step 6 _ h3 (by decide) (fun e=>by omega) (fun e=>by omega) (fun e=>by omega) (fun e=>by omega) (fun e=>by omega) (fun e=>by omega) (fun _=>⟨ix,kd,ea,ec,eb,rfl,HH1.out,fun p hp h0 e=>by have:=HTT.out;rcases HH2.out p hp h0 with h|h <;> omega⟩) (fun e=>by omega) (fun e=>by omega)⟩
    case p7 =>
     intro L u X hdep hlat hLi hx
     obtain ⟨s',hx⟩:=hx
     have e0:=hx.v0 (hdep 0 (by decide +kernel))
     have h7:L 7=false:=hLi
     have h8:L 8=false:=hlat 8 (by decide +kernel)
     have h9:L 9=false:=hlat 9 (by decide +kernel)
     have h12:L 12=false:=hlat 12 (by decide +kernel)
     obtain rfl:s'=s:=hx.c0 h7
     obtain ⟨ix,kd,ea,ec,eb,e6,g2,g3⟩:=hx.v6 (hdep 6 (by decide +kernel)) h7
     have HAP:=hid (apply_any hx.m HIB.out ix 0 kd ea ec eb g2 g3)
     clear g2 g3
     have HXX:=hid hx
     generalize hR:(fun v w'=>∃ s'',AR _ _ _ _ _ s'' (setI L _) (setU u _ (gotI _ v)) w')=RR
     have HR:=hid hR
     clear hR hx hdep hlat
     simp only [putsFrom,Act.put,qA,qB,qC,Nat.zero_add,Nat.reduceAdd]
     simp only [e0,e6]
     clear e0
     clear e6
     go_wp2_with (go_at_call 25;(with_reducible refine HAP.out.mono ?_);rintro e w9 ⟨rfl,s2,hm2,hd2,hf2,-,-⟩;have HM9:=hid hm2;have HD9:=hid hd2;have HF9:=hid hf2;clear hm2 hd2 hf2)
     have hR:=HR.out
     subst hR
     exact ⟨rfl,_,HXX.out.apply h7 h8 h9 h12 HM9.out HF9.out ⟨ix,kd,eb,HD9.out,rfl⟩⟩
    case p8 =>
     intro L u X hdep hlat hLi hx
     obtain ⟨s',hx⟩:=hx
     obtain ⟨r,hr1,hr2⟩:=hx.v7 (hdep 7 (by decide +kernel))
     have HXX:=hid hx
     generalize hR:(fun v w'=>∃ s'',AR _ _ _ _ _ s'' (setI L _) (setU u _ (gotI _ v)) w')=RR
     have HR:=hid hR
     clear hR hx hdep hlat
     simp only [putsFrom,Act.put,qA,qB,qC,Nat.zero_add,Nat.reduceAdd]
     simp only [hr2]
     clear hr2
     go_wp2_with fail
     have hR:=HR.out
     subst hR
     exact ⟨rfl,s',HXX.out.step 8 _ (Below.refl _ _) (by decide) (fun e=>by omega) (fun e=>by omega) (fun e=>by omega) (fun e=>by omega) (fun e=>by omega) (fun e=>by omega) (fun e=>by omega) (fun _=>⟨r,hr1,rfl⟩) (fun e=>by omega)⟩
    case p9 =>
     intro L u X hdep hlat hLi hx
     obtain ⟨s',hx⟩:=hx
     obtain ⟨r,hr1,hr2⟩:=hx.v8 (hdep 8 (by decide +kernel))
     unfold tupV at hr2
     have HXX:=hid hx
     generalize hR:(fun v w'=>∃ s'',AR _ _ _ _ _ s'' (setI L _) (setU u _ (gotI _ v)) w')=RR
     have HR:=hid hR
     clear hR hx hdep hlat
     simp only [putsFrom,Act.put,qA,qB,qC,Nat.zero_add,Nat.reduceAdd]
     simp only [hr2]
     clear hr2
     go_wp2_with fail
     have hR:=HR.out
     subst hR
     exact ⟨rfl,s',HXX.out.step 9 _ (Below.refl _ _) (by decide) (fun e=>by omega) (fun e=>by omega) (fun e=>by omega) (fun e=>by omega) (fun e=>by omega) (fun e=>by omega) (fun e=>by omega) (fun e=>by omega) (fun _=>⟨r,hr1,rfl⟩)⟩
    case p10 =>
     intro L u X hdep hlat hLi hx
     obtain ⟨s',hx⟩:=hx
     obtain ⟨r,hr1,hr2⟩:=hx.v8 (hdep 8 (by decide +kernel))
     unfold tupV at hr2
     have HXX:=hid hx
     generalize hR:(fun v w'=>∃ s'',AR _ _ _ _ _ s'' (setI L _) (setU u _ (gotI _ v)) w')=RR
     have HR:=hid hR
     clear hR hx hdep hlat
     simp only [putsFrom,Act.put,qA,qB,qC,Nat.zero_add,Nat.reduceAdd]
     simp only [hr2]
     clear hr2
     go_wp2_with fail
     have hR:=HR.out
     subst hR
     exact ⟨rfl,s',HXX.out.step 10 _ (Below.refl _ _) (by decide) (fun e=>by omega) (fun e=>by omega) (fun e=>by omega) (fun e=>by omega) (fun e=>by omega) (fun e=>by omega) (fun e=>by omega) (fun e=>by omega) (fun e=>by omega)⟩
    case p11 =>
     intro L u X hdep hlat hLi hx
     obtain ⟨s',hx⟩:=hx
     have h12:L 12=false:=hlat 12 (by decide +kernel)
     have HXX:=hid hx
     generalize hR:(fun v w'=>∃ s'',AR _ _ _ _ _ s'' (setI L _) (setU u _ (gotI _ v)) w')=RR
     have HR:=hid hR
     clear hR hx hdep hlat
     simp only [putsFrom,Act.put,qA,qB,qC,Nat.zero_add,Nat.reduceAdd]
     go_wp2_with fail
     have hR:=HR.out
     subst hR
     exact ⟨rfl,s',HXX.out.box h12⟩
    case p12 =>
     intro L u X hdep hlat hLi hx
     obtain ⟨s',hx⟩:=hx
     obtain ⟨r,hr1,e9⟩:=hx.v9 (hdep 9 (by decide +kernel))
     have h11:=hdep 11 (by decide +kernel)
     have h7:=hdep 7 (by decide +kernel)
     have h12:L 12=false:=hLi
     obtain ⟨b,e11,hb1,hb2,hb3,hb4⟩:=hx.b h11
     have HE11:=hid e11
     have hbz:X.heap[b]? = some (.cells (ansA aZero) 70 (0,0)):=by
      rcases hb4 with ⟨_,h⟩|⟨h,_⟩
      ·exact h
      ·rw [h12] at h;cases h
     unfold ansA aZero at hbz
     unfold ansA at e9
     have HST:=hid (set5f hbz (.int .i64 r.1.s0) (.int .i64 r.1.s1) (.int .i64 r.1.code) (.int .i64 r.1.num) (.bool r.1.fresh))
     obtain ⟨⟨y0,y1,y2,y3,y4⟩,⟨f0,f1,f2,f3,f4⟩,yl⟩:=box5 hbz
     clear hb4 hbz
     have HXX:=hid hx
     generalize hR:(fun v w'=>∃ s'',AR _ _ _ _ _ s'' (setI L _) (setU u _ (gotI _ v)) w')=RR
     have HR:=hid hR
     clear hR hx hdep hlat
     simp only [putsFrom,Act.put,qA,qB,qC,Nat.zero_add,Nat.reduceAdd]
     simp only [e9,e11]
     clear e9
     clear e11
     go_wp2_with fail
     have hR:=HR.out
     subst hR
     exact ⟨rfl,s',HXX.out.store HE11.out h11 h12 hr1 HST.out.1 HST.out.2 hTY h7⟩
    case p13 =>
     intro L u X hdep hlat hLi hx
     obtain ⟨s',hx⟩:=hx
     have HXX:=hid hx
     generalize hR:(fun v w'=>∃ s'',AR _ _ _ _ _ s'' (setI L _) (setU u _ (gotI _ v)) w')=RR
     have HR:=hid hR
     clear hR hx hdep hlat
     simp only [putsFrom,Act.put,qA,qB,qC,Nat.zero_add,Nat.reduceAdd]
     go_wp2_with fail
     have hR:=HR.out
     subst hR
     exact ⟨rfl,s',HXX.out.step 13 _ (Below.refl _ _) (by decide) (fun e=>by omega) (fun e=>by omega) (fun e=>by omega) (fun e=>by omega) (fun e=>by omega) (fun e=>by omega) (fun e=>by omega) (fun e=>by omega) (fun e=>by omega)⟩
   ·intro L u X hall hx
    obtain ⟨s',hx⟩:=hx
    obtain ⟨b,e11,hb1,hb2,hb3,hb4⟩:=hx.b (hall 11 (by decide))
    rcases hb4 with ⟨h,_⟩|⟨_,r,hr,hbz⟩
    ·rw [hall 12 (by decide)] at h;cases h
    have hMX:=hx.m
    have hFX:=HFY.out.frm hx.f
    have hbX:=HBY.out.trans (HMY.out.fr_below hx.f)
    obtain ⟨ix,kd,eb,hd,hr'⟩:=hr
    have hO:=once_step HO.out (show 0≤(CL.n s.c).count∧_ from HCB.out) ix kd eb
    have hI:=applyD_ix s.d ix kd eb
    generalize applyD s.d ix kd eb=ad at *
    obtain ⟨m',an,err⟩:=ad
    simp only at hd hr' hI
    subst hd hr'
    have HMX:=hid hMX;have HFX:=hid hFX;have HON:=hid hO;have HIX:=hid (show 0≤s'.ix∧s'.ix≤(k:Int)+1 from by
     have h1:s'.d.ix=s'.ix:=rfl
     have h2:s.d.ix=s.ix:=rfl
     have:=HI.out;omega)
    have HBX:=hid hbX
    unfold ansA at hbz
    simp only at hbz
    have HBZ:=hid hbz
    have hnb:=hb3
    have HGB:=hid (show ∀ g,(Value.slice a8 n8 c8).ownBlock=some g→g≠b from fun g e=>by have:=(HFY.out.own.lt g e).2;omega)
    have hbw':w.heap.size≤Y0.heap.size:=HBY.out.size
    have HWB:=hid (show w.heap.size≤b from Nat.le_trans hbw' hb1)
    clear hbw'
    clear hall hx hMX hFX hbX hO hI hb1 hb2 hb3 hbz HFY HMY HBY HQY HNS HY0 HOP HAW HCB HIB HI HO hTY hST
    simp only [putsFrom,Act.put,qA,qB,qC,Nat.zero_add,Nat.reduceAdd]
    simp only [e11]
    clear e11
    go_upto_region 11 with fail
    have hIn:=hid (Below.refl X.heap.size X)
    go_loopw [48] (fun t48 wr=>∃ j:Nat,t48=.int .i64 (j:Nat)∧j≤n8∧Below X.heap.size X wr) (fun t48 _=>n8-(intOf t48).toNat)
    case atStart=>exact ⟨0,rfl,Nat.zero_le _,Below.refl _ _⟩
    case round =>
     obtain ⟨j,rfl,hj,hbr⟩:=hrel
     have qb:=(hbr.block b (Array.getElem?_eq_some_iff.1 HBZ.out).1).trans HBZ.out
     by_cases hjl:j<n8
     ·have hjl':(j:Int)<(n8:Int):=by omega
      have hFr:=HFX.out.below hbr
      obtain ⟨f,hf⟩:∃ f,F[j]? = some f:=⟨_,List.getElem?_eq_getElem (by rw [hFr.len];exact hjl)⟩
      obtain ⟨g8,rfl,hg8,c0,c1,c2,c3,c4⟩:=hFr.get hjl hf
      have hOld:=HON.out.old f (List.mem_of_getElem? hf)
      obtain ⟨⟨a0,a1,a2,a3,a4⟩,-,al⟩:=box5 qb
      clear hFr hf qb
      go_upto_region 13 with fail
      have q12:(wr.alloc (.cells #[.int .i64 f.s0,.int .i64 f.s1,.int .i64 f.code,.int .i64 f.num,.bool f.fresh] 70)).heap[wr.heap.size]? = some (.cells #[.int .i64 f.s0,.int .i64 f.s1,.int .i64 f.code,.int .i64 f.num,.bool f.fresh] 70 (0,0)):=heap_alloc_new wr _
      have hb12:Below wr.heap.size wr (wr.alloc (.cells #[.int .i64 f.s0,.int .i64 f.s1,.int .i64 f.code,.int .i64 f.num,.bool f.fresh] 70)):=by exact below_auto
      obtain ⟨C,hC⟩:∃ C,C=wr.heap.size:=⟨_,rfl⟩
      rw [←hC] at q12 ⊢
      generalize hW12:World.alloc _ _=w12 at *
      have hbr2:=hbr.trans (hb12.mono hbr.size)
      have a0:=(hb12.cell (p:=⟨b,0,none⟩) al).trans a0
      have a1:=(hb12.cell (p:=⟨b,1,none⟩) al).trans a1
      have a2:=(hb12.cell (p:=⟨b,2,none⟩) al).trans a2
      have a3:=(hb12.cell (p:=⟨b,3,none⟩) al).trans a3
      have a4:=(hb12.cell (p:=⟨b,4,none⟩) al).trans a4
      have al:b<w12.heap.size:=Nat.lt_of_lt_of_le al hb12.size
      obtain ⟨⟨y0,y1,y2,y3,y4⟩,-,yl⟩:=box5 q12
      clear hC hW12 hb12 q12 c0 c1 c2 c3 c4 hbr hg8
      by_cases hs0:f.s0=an.s0
      rotate_left
      ·have hne:(f.s0 != an.s0)=true:=by simpa using hs0
       clear hs0 hOld
       go_wp2_with fail
       go_roundw
       case rel=>exact ⟨j+1,by go_num,by omega,hbr2⟩
       case measure=>simp [intOf];omega
      ·by_cases hs1:f.s1=an.s1
       rotate_left
       ·have hne:(f.s1 != an.s1)=true:=by simpa using hs1
        rw [hs0] at y0
        clear hs0 hs1 hOld
        go_wp2_with fail
        go_roundw
        case rel=>exact ⟨j+1,by go_num,by omega,hbr2⟩
        case measure=>simp [intOf];omega
       ·obtain ⟨hfr,hv⟩:=hOld hs0 hs1
        simp only at hfr hv
        rw [hs0] at y0;rw [hs1] at y1;rw [hfr] at a4
        clear hs0 hs1 hOld hfr
        rcases hv with ⟨h1,h2⟩|h1
        ·rw [h1] at a2;rw [h2] at a3
         clear h1 h2
         go_wp2_with fail
         go_roundw
         case rel=>exact ⟨j+1,by go_num,by omega,hbr2⟩
         case measure=>simp [intOf];omega
        ·rw [h1] at a2
         clear h1
         go_wp2_with fail
         all_goals
          go_roundw
          case rel=>exact ⟨j+1,by go_num,by omega,hbr2⟩
          case measure=>simp [intOf];omega
     ·obtain rfl:j=n8:=by omega
      have hge:¬(j:Int)<(j:Int):=by omega
      have hMr:=HMX.out.below hbr
      have hFr:=HFX.out.below hbr
      have hbw:=HBX.out.trans (hbr.mono HBX.out.size)
      obtain ⟨⟨a0,a1,a2,a3,a4⟩,-,al⟩:=box5 qb
      have HQB:=hid qb
      clear qb
      cases hfr:an.fresh with
      | false =>
       have HO2:=hid (HON.out.idle hfr)
       rw [hfr] at a4
       clear hfr
       go_wp2_with fail
       go_roundw
       case rel=>exact ⟨k+1,j,c8,a8,cnt,s',F,rfl,rfl,by go_num,by omega,by omega,by omega,hid hFr,hid hMr,HO2,hid (by have:=HIX.out;omega),hbw⟩
       case measure=>simp [intOf];omega
      | true =>
       obtain ⟨hO1,hO2,hO3⟩:=HON.out.new hfr
       simp only at hO1 hO2 hO3
       obtain ⟨a',c',w',hr,hF',hM',hb',hg'⟩:=app_f an hFr hMr hbw.size (by omega)
       rw [hfr] at a4 hr
       have hid5:=look_five (show (lookT s'.d.t an.s0 an.s1).1=5 by rw [hO3])
       have qb':=(hg'.block b al fun e=>HGB.out b e.symm rfl).trans HQB.out
       have hbw':=hbw.trans hb'
       have HR:=hid hr;have HF':=hid hF';have HM':=hid hM';have HQ':=hid qb';have HB':=hid hbw'
       have HO1:=hid hO1;have HO2:=hid hO2;have HO3:=hid hO3;have HFR:=hid hfr
       clear hr hF' hM' hb' hg' hFr hMr qb' hbw' hbw hO1 hO2 hO3
       go_upto_region 19 with (at_builtin;refine Lib.wpList_append_run _ rfl _ _ _ _ rfl _ _ rfl rfl _ _ (HR.out _) ?_)
       clear a0 a1 a2 a3 a4 al
       obtain ⟨⟨a0,a1,a2,a3,a4⟩,-,al⟩:=box5 HQ'.out
       have LK:=hid fun W (hb:Below w'.heap.size w' W)=>(show Calls Tryz.prog 29 #[.pointer (some ⟨T,0,none⟩),.int .i64 an.s0,.int .i64 an.s1] W (Ret (.tuple #[.agg #[.int .i64 an.code,.int .i64 an.num],.int .i64 5]) W) from by
        have:=mLook_any (HM'.out.below hb) an.s0 an.s1 (by omega)
        rw [HO3.out] at this
        exact this)
       by_cases hcd:an.code=0
       ·have hnum:=HO2.out hcd
        rw [hcd,hnum] at LK
        rw [hcd] at a2;rw [hnum] at a3
        have HO4:=hid (show Once s'.d (F++[an]) (cnt+1) from by have:=HO1.out;rwa [if_pos hcd] at this)
        clear hcd hnum hid5
        go_upto_region 24 with (go_at_call 29;with_reducible refine mQ (LK.out _ (by exact below_auto)) ?_;intro w9 hb9 hc9 hf9 hz9;intros)
        have hb10:Below w'.heap.size w' (w9.alloc (.cells #[.int .i64 0,.int .i64 (cnt+1)] 45)):=by exact below_auto
        have qv:(w9.alloc (.cells #[.int .i64 0,.int .i64 (cnt+1)] 45)).heap[w9.heap.size]? = some (.cells #[.int .i64 0,.int .i64 (cnt+1)] 45 (0,0)):=heap_alloc_new w9 _
        have a2:=(hb10.cell (p:=⟨b,2,none⟩) al).trans a2
        have a3:=(hb10.cell (p:=⟨b,3,none⟩) al).trans a3
        have al:=Nat.lt_of_lt_of_le al hb10.size
        generalize hW10:World.alloc _ _=w10 at *
        obtain ⟨v0,v1,-,-⟩:=box2 qv
        have vl:=(Array.getElem?_eq_some_iff.1 qv).1
        have HB10:=hid hb10
        clear hW10 hb10 qv hc9 hf9 hz9 hb9 a0 a1 a4
        go_wp2_with fail
        go_roundw
        case rel=>exact ⟨k+1,j+1,c',a',cnt+1,s',F++[an],rfl,rfl,by go_num,by omega,by omega,by omega,hid (HF'.out.below HB10.out),hid (HM'.out.below HB10.out),HO4,hid (by have:=HIX.out;omega),HB'.out.trans (HB10.out.mono HB'.out.size)⟩
        case measure=>simp [intOf];omega
       ·have HO4:=hid (show Once s'.d (F++[an]) cnt from by have:=HO1.out;rwa [if_neg hcd] at this)
        have hcb:(an.code == 0)=false:=by simpa using hcd
        clear hcd hid5
        go_upto_region 24 with (go_at_call 29;with_reducible refine mQ (LK.out _ (by exact below_auto)) ?_;intro w9 hb9 hc9 hf9 hz9;intros)
        have hb10:Below w'.heap.size w' (w9.alloc (.cells #[.int .i64 an.code,.int .i64 an.num] 45)):=by exact below_auto
        have qv:(w9.alloc (.cells #[.int .i64 an.code,.int .i64 an.num] 45)).heap[w9.heap.size]? = some (.cells #[.int .i64 an.code,.int .i64 an.num] 45 (0,0)):=heap_alloc_new w9 _
        have a2:=(hb10.cell (p:=⟨b,2,none⟩) al).trans a2
        have a3:=(hb10.cell (p:=⟨b,3,none⟩) al).trans a3
        have al:=Nat.lt_of_lt_of_le al hb10.size
        generalize hW10:World.alloc _ _=w10 at *
        obtain ⟨v0,v1,-,-⟩:=box2 qv
        have vl:=(Array.getElem?_eq_some_iff.1 qv).1
        have HB10:=hid hb10
        clear hW10 hb10 qv hc9 hf9 hz9 hb9 a0 a1 a4
        go_wp2_with fail
        go_roundw
        case rel=>exact ⟨k+1,j+1,c',a',cnt,s',F++[an],rfl,rfl,by go_num,by omega,by omega,by omega,hid (HF'.out.below HB10.out),hid (HM'.out.below HB10.out),HO4,hid (by have:=HIX.out;omega),HB'.out.trans (HB10.out.mono HB'.out.size)⟩
        case measure=>simp [intOf];omega
   ·exact fun _ _ _ _ h=>h.elim
  ·obtain rfl:k=n:=by omega
   have hge:¬(k:Int)<(k:Int):=by omega
   have hcc:s.c.count=cnt:=HO.out.cnt.symm
   have HC:=hid (mCount_any HM.out)
   rw [hcc] at HC
   clear hcc
   go_wp2_with (go_at_call 28;with_reducible refine mQ (HC.out) ?_;intro w9 hb9 hc9 hf9 hz9;intros)
   go_ret
   exact ⟨rfl,hbw.trans (hb9.mono hbw.size)⟩

end Go.Proofs.YtdeeoddacnealaaGreat.M