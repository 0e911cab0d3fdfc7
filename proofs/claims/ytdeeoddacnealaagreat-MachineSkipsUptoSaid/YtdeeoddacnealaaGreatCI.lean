/- A transaction goes into the summary: the walk (printed by py/certsum.py). -/
import Derived.Test.YtdeeoddacnealaaGreatQ0
import Derived.Test.YtdeeoddacnealaaGreatMCH
import Derived.BigRegion
set_option linter.unusedVariables false
set_option linter.unusedSimpArgs false
namespace Go.Proofs.YtdeeoddacnealaaGreat.C
open Go.RowKit Fl

def Ch (Y:World) (P:SumS→World→Prop) (s:SumS) (f:Value) (s1 s2:SumS):List Value→World→Prop
 | [],X=>X=Y∧P s X
 | [v],X=>v=f∧P s1 X
 | _ :: _ :: _,X=>P s2 X
theorem Ch.any {Y:World} {P:SumS→World→Prop} {s s1 s2:SumS} {f:Value}:∀ {ms:List Value} {X:World},Ch Y P s f s1 s2 ms X→∃ s',P s' X
 | [],_,h=>⟨s,h.2⟩
 | [_],_,h=>⟨s1,h.2⟩
 | _ :: _ :: _,_,h=>⟨s2,h⟩
theorem SuI.cells {w0:World} {B T:Nat} {c:CL} {ow:Nat→Nat} {R E:Nat} {r:RecV} {X:World} (h:∃ s,SuI w0 B T c ow R E r s X) :
  X.cell? ⟨T,5,none⟩=some (.pointer (some ⟨c.t1,0,none⟩))∧X.cell? ⟨T,6,none⟩=some (.pointer (some ⟨c.t2,0,none⟩))∧X.cell? ⟨T,7,none⟩=some (.pointer (some ⟨c.t3,0,none⟩))∧X.cell? ⟨T,8,none⟩=some (.pointer (some ⟨c.t4,0,none⟩))∧X.cell? ⟨R,0,none⟩=some (.int .i64 r.num):=by
 obtain ⟨s,h⟩:=h
 obtain ⟨ow',h1,_⟩:=h.ex
 obtain ⟨-,-,-,-,-,g5,g6,g7,g8⟩:=row9 h1.box
 exact ⟨g5,g6,g7,g8,(row8 h.qR).1⟩
theorem SuI.subs {w0:World} {B T:Nat} {c:CL} {ow:Nat→Nat} {R E:Nat} {r:RecV} {s:SumS} {X:World} (h:SuI w0 B T c ow R E r s X) (hr:r∈c.recs):r.s.At X:=by
 obtain ⟨ow',h1,_⟩:=h.ex
 exact (h1.subs r hr).at_
theorem clearV (v:Value) (w:World):(method (Tryz.prog.types.size+Made.depth) 105 v "Clear").run Tryz.prog w=.ok (320,v) w:=by kernel_rfl
theorem clearQ (v:Value) (w:World):(method (Tryz.prog.types.size+Made.depth) 107 v "Clear").run Tryz.prog w=.ok (321,v) w:=by kernel_rfl
theorem entV (a:Array Value) (w:World):(callFunc 320 a).run Tryz.prog w=.ok (.enter 320 a) w:=by kernel_rfl
theorem entQ (a:Array Value) (w:World):(callFunc 321 a).run Tryz.prog w=.ok (.enter 321 a) w:=by kernel_rfl
theorem wpList_invoke {P:Program} (w:World) {ops:Array Oper} {rest:List Oper} {o:Oper} {a:Act} {Q:Exit→Act→World→Prop} (hgd:o.guard=none) (s:Operand) (nm:String)
  (ho:o.op=.call { callee:=.invoke s nm,args:=#[],argTypes:=#[] }) (T:TypeId) (rv:Value) (f:Nat) (v:Value) (hs:a.eval s=.iface T rv) (hm:(method (P.types.size+Made.depth) T rv nm).run P w=.ok (f,rv) w) (he:(callFunc f #[rv]).run P w=.ok (.enter f #[rv]) w)
  (h:Calls P f #[rv] w fun e w'=>e=.returned v∧wpList P ops Q rest (a.put o.dst v) w'):wpList P ops Q (o :: rest) a w:=by
 refine wpList_plain hgd fun K hK=>?_
 have hrun:(execOp a.eval o).run P w=.ok (.enter f #[rv]) w:=by
  simp only [Made.depth] at hm
  generalize a.eval=ev at hs ⊢
  simp [execOp,ho,resolve,invoke,callMethod,go_sem,hs,hm,he,Result.andThen]
 unfold Oper.wp
 rw [hrun]
 refine h.mono fun e w' ⟨h1,h2⟩=>?_
 subst h1
 exact hK _ _ h2
def clr (s:SumS) (k:Nat):SumS:={ s with i1:=if 0<k then [] else s.i1,i2:=if 1<k then [] else s.i2,i3:=if 2<k then [] else s.i3,i4:=if 3<k then [] else s.i4 }
theorem clr0 (s:SumS):clr s 0=s:=by simp [clr]
theorem clr1 (s:SumS):{ (clr s 0) with i1:=[] }=clr s 1:=by simp [clr]
theorem clr2 (s:SumS):{ (clr s 1) with i2:=[] }=clr s 2:=by simp [clr]
theorem clr3 (s:SumS):{ (clr s 2) with i3:=[] }=clr s 3:=by simp [clr]
theorem clr4 (s:SumS):{ (clr s 3) with i4:=[] }=clr s 4:=by simp [clr]
theorem CAt.hor {B T:Nat} {c:CL} {ow:Nat→Nat} {w:World} (h:CAt B T c ow w) (n:Int) (h1:0≤n∧n≤c.count):CAt B T { c with horizon:=n } ow (w.setCell ⟨T,3,none⟩ (.int .i64 n))∧Fr ow ow w (w.setCell ⟨T,3,none⟩ (.int .i64 n)):=by
 obtain ⟨q,g⟩:=K.set1 (i:=3) h.box (.int .i64 n)
 have kp:∀ j:Nat,j≠1→Keeps w (w.setCell ⟨T,3,none⟩ (.int .i64 n)) (fun k=>ow k=j):=fun j hj k hk' e=>g.block k hk' fun e'=>hj (by have:=Option.some.inj e';rw [←e,this];exact h.hT)
 have id:∀ S:Nat→Prop,∀ k,k<w.heap.size→S k→S k:=fun S k _ h=>h
 exact ⟨⟨q,h.hT,row_kept h.row fun k e=>g.block k (h.row.lt k e).2 fun e'=>(h.hrow k e).2 (Option.some.inj e'),h.hrow,h.k1.kept (id _) (kp 2 (by decide)),h.k2.kept (id _) (kp 3 (by decide)),h.k3.kept (id _) (kp 4 (by decide)),h.k4.kept (id _) (kp 5 (by decide)),fun r hr=>(h.subs r hr).kept (id _) (kp 6 (by decide)),fun k hk=>⟨(h.low k hk).1,Nat.lt_of_lt_of_le (h.low k hk).2 g.size⟩,⟨h1.1,h1.2,h.cnt.2.2⟩,h.nums,h.kp,h.chk⟩,
  ⟨g.os,g.tape,g.output,g.size,fun k hk h0=>g.block k hk fun e=>(by have:=Option.some.inj e;rw [this,h.hT] at h0;cases h0),fun _ _=>rfl⟩⟩
theorem take_snoc {α:Type} {l:List α} {k:Nat} {x:α} (h:l[k]? = some x):l.take (k+1)=l.take k++[x]:=by rw [List.take_add_one,h];rfl

set_option maxHeartbeats 4000000 in
set_option maxRecDepth 100000 in
theorem sum_any {B T:Nat} {c:CL} {ow:Nat→Nat} {w:World} (h:CAt B T c ow w) (r:RecV) (hr:r∈c.recs) :
  Calls Tryz.prog 49 #[.pointer (some ⟨T,0,none⟩),.agg #[.int .i64 r.num,.int .i64 r.s.s0,.int .i64 r.s.s1,.int .i64 r.s.s2,.slice r.s.ra r.s.rs.length r.s.rc,.slice r.s.sa r.s.ss.length r.s.sc,.slice r.s.wa r.s.ws.length r.s.wc,.bool r.out]] w fun e w'=>e=.returned (.tuple #[])∧∃ ow',CAt B T (c.sum r) ow' w'∧Fr ow ow' w w':=by
 have HC:=hid fun (R E:Nat) (X:World) (h:∃ s,SuI w B T c ow R E r s X)=>SuI.cells h
 have hz:=h.lt
 have HH:=hid h
 clear h
 go_enter Tryz.func49,Tryz.ntmps49
 go_upto_region 3 with fail
 generalize hW1:World.alloc _ _=w1
 have hI:SuI w B T c ow w.heap.size (w.heap.size+1) r ⟨0,c.i1,c.i2,c.i3,c.i4⟩ w1:=by
  have hb:Below w.heap.size w w1:=by rw [←hW1];exact below_auto
  have z:=fun k (hk:w.heap.size≤k)=>Classical.byContradiction fun h0:¬ow k=0=>by have:=(HH.out.low k h0).2;omega
  exact ⟨⟨ow,HH.out.below hb,Fr.of_below ow hb,z _ (Nat.le_refl _),z _ (by omega)⟩,Nat.le_refl _,⟨by omega,by omega⟩,by rw [←hW1];exact (two_alloc w _ _).1,by rw [←hW1];exact (two_alloc w _ _).2⟩
 clear hW1
 obtain ⟨R,hR⟩:∃ R,R=w.heap.size:=⟨_,rfl⟩
 rw [←hR] at hI ⊢
 obtain ⟨E,hE⟩:∃ E,E=R+1:=⟨_,rfl⟩
 rw [←hE] at hI ⊢
 clear hR hE
 have HC:=hid (HC.out R E)
 obtain ⟨r0,r1,r2,r3,r4,r5,r6,r7⟩:=row8 hI.qR
 go_upto_region 4 with fail
 clear r0 r1 r2 r3 r4 r5 r6 r7
 go_loopw [20] (fun i wr=>∃ k:Nat,k≤r.s.ws.length∧i=.int .i64 k∧SuI w B T c ow R E r (sWs (mostI c.old) r.num r.out ⟨0,c.i1,c.i2,c.i3,c.i4⟩ (r.s.ws.take k)) wr) (fun i _=>r.s.ws.length-(intOf i).toNat)
 case atStart=>exact ⟨0,Nat.zero_le _,rfl,hI⟩
 case round =>
  clear hI
  obtain ⟨k,hk,rfl,hI⟩:=hrel
  have hm:=(hI.subs hr).w.len
  unfold maxLen at hm
  by_cases hlt:k<r.s.ws.length
  ·as_aux_lemma =>
    obtain ⟨b,o,hwa,hb,c0,hl0⟩:=fat_get (hI.subs hr).w k hlt
    have hlt':(k:Int)<(r.s.ws.length:Int):=by omega
    have hkx:=fl_some (xs:=r.s.ws) (k:=k) hlt
    have hsn:=hid ((congrArg (sWs (mostI c.old) r.num r.out ⟨0,c.i1,c.i2,c.i3,c.i4⟩) (take_snoc hkx)).trans (sWs_snoc _ _ _ _ _ _))
    clear hkx
    generalize r.s.ws[k]?.getD 0=key at *
    generalize sWs (mostI c.old) r.num r.out ⟨0,c.i1,c.i2,c.i3,c.i4⟩ (r.s.ws.take k)=s at *
    have FIN:=hid fun (s':SumS) (X:World) (hX:SuI w B T c ow R E r s' X) (e:s'=sW (mostI c.old) r.num r.out s key)=>(show ∃ k':Nat,k'≤r.s.ws.length∧Value.int .i64 ((k:Int)+1)=.int .i64 k'∧SuI w B T c ow R E r (sWs (mostI c.old) r.num r.out ⟨0,c.i1,c.i2,c.i3,c.i4⟩ (r.s.ws.take k')) X from ⟨k+1,by omega,by go_num,by rw [hsn.out,←e];exact hX⟩)
    rw [hwa]
    go_upto_region 6 with fail
    refine wp_region_chainV [(0,fun _=>.func (.func 119) #[] #[.pointer (some ⟨E,0,none⟩)]),(0,fun _=>.pointer (some ⟨T,0,none⟩)),(0,fun _=>.pointer (some ⟨T,0,none⟩)),(0,fun _=>.pointer (some ⟨T,5,none⟩)),(0,fun _=>.pointer (some ⟨c.t1,0,none⟩)),(0,fun _=>.float .f64 key),(0,fun _=>.pointer (some ⟨R,0,none⟩)),(0,fun _=>.pointer (some ⟨R,0,none⟩)),(0,fun _=>.int .i64 r.num),(1,fun ms=>ms.getD 0 undef),(2,fun ms=>ms.getD 1 undef)] (Ch { wr with drawn:=wr.drawn+1 } (SuI w B T c ow R E r) (s) (.int .i64 (putI s.i1 (mostI c.old) key r.num).1) ({ s with i1:=(putI s.i1 (mostI c.old) key r.num).2 }) ({ s with e:=C.note s.e (putI s.i1 (mostI c.old) key r.num).1,i1:=(putI s.i1 (mostI c.old) key r.num).2 })) (fun _ _=>False) [9,10] rfl (by kernel_rfl) (by kernel_rfl) (by kernel_rfl) (by decide) (by decide) ⟨rfl,hI.below (Below.drew (Below.refl _ _))⟩ ?_ ?_ ?_
    ·simp only [StepsV,List.nil_append,List.cons_append,Nat.zero_add,Nat.reduceAdd]
     refine ⟨?p0,?p1,?p2,?p3,?ld,?ky,?p6,?p7,?l8,?pt,?nt,trivial⟩
     case p0 =>
      intro ms X g1 g2 hx
      refine mM ?_
      generalize hR:(fun v w'=>(_→v=_)∧_)=RR
      have HR:=hid hR
      have HXX:=hid hx
      clear hR g1 g2 hx
      try refine mV ?_
      go_wp2_with fail
      have hR:=HR.out
      subst hR
      exact ⟨rfl,fun _=>rfl,HXX.out⟩
     case p1 =>
      intro ms X g1 g2 hx
      refine mM ?_
      generalize hR:(fun v w'=>(_→v=_)∧_)=RR
      have HR:=hid hR
      have HXX:=hid hx
      clear hR g1 g2 hx
      try refine mV ?_
      go_wp2_with fail
      have hR:=HR.out
      subst hR
      exact ⟨rfl,fun _=>rfl,HXX.out⟩
     case p2 =>
      intro ms X g1 g2 hx
      refine mM ?_
      generalize hR:(fun v w'=>(_→v=_)∧_)=RR
      have HR:=hid hR
      have HXX:=hid hx
      clear hR g1 g2 hx
      try refine mV ?_
      go_wp2_with fail
      have hR:=HR.out
      subst hR
      exact ⟨rfl,fun _=>rfl,HXX.out⟩
     case p3 =>
      intro ms X g1 g2 hx
      refine mM ?_
      generalize hR:(fun v w'=>(_→v=_)∧_)=RR
      have HR:=hid hR
      have HXX:=hid hx
      clear hR g1 g2 hx
      try refine mV ?_
      go_wp2_with fail
      have hR:=HR.out
      subst hR
      exact ⟨rfl,fun _=>rfl,HXX.out⟩
     case ld =>
      intro ms X g1 g2 hx
      obtain ⟨g5,g6,g7,g8,gR⟩:=HC.out X (Ch.any hx)
      refine mM ?_
      generalize hR:(fun v w'=>(_→v=_)∧_)=RR
      have HR:=hid hR
      have HXX:=hid hx
      clear hR g1 g2 hx
      try refine mV ?_
      go_wp2_with fail
      have hR:=HR.out
      subst hR
      exact ⟨rfl,fun _=>rfl,HXX.out⟩
     case ky =>
      intro ms X g1 g2 hx
      refine mM ?_
      generalize hR:(fun v w'=>(_→v=_)∧_)=RR
      have HR:=hid hR
      have HXX:=hid hx
      clear hR g1 g2 hx
      try refine mV ?_
      go_wp2_with fail
      have hR:=HR.out
      subst hR
      exact ⟨rfl,fun _=>rfl,HXX.out⟩
     case p6 =>
      intro ms X g1 g2 hx
      refine mM ?_
      generalize hR:(fun v w'=>(_→v=_)∧_)=RR
      have HR:=hid hR
      have HXX:=hid hx
      clear hR g1 g2 hx
      try refine mV ?_
      go_wp2_with fail
      have hR:=HR.out
      subst hR
      exact ⟨rfl,fun _=>rfl,HXX.out⟩
     case p7 =>
      intro ms X g1 g2 hx
      refine mM ?_
      generalize hR:(fun v w'=>(_→v=_)∧_)=RR
      have HR:=hid hR
      have HXX:=hid hx
      clear hR g1 g2 hx
      try refine mV ?_
      go_wp2_with fail
      have hR:=HR.out
      subst hR
      exact ⟨rfl,fun _=>rfl,HXX.out⟩
     case l8 =>
      intro ms X g1 g2 hx
      obtain ⟨g5,g6,g7,g8,gR⟩:=HC.out X (Ch.any hx)
      refine mM ?_
      generalize hR:(fun v w'=>(_→v=_)∧_)=RR
      have HR:=hid hR
      have HXX:=hid hx
      clear hR g1 g2 hx
      try refine mV ?_
      go_wp2_with fail
      have hR:=HR.out
      subst hR
      exact ⟨rfl,fun _=>rfl,HXX.out⟩
     case pt =>
      intro ms X g1 g2 hx
      have hl:ms.length=0:=Nat.le_antisymm (Nat.le_trans g2 (by decide +kernel)) (Nat.le_trans (by decide +kernel) g1)
      obtain rfl:=P.ls0 hl
      have hx0:SuI w B T c ow R E r (s) X:=hx.2
      refine mM ?_
      generalize hR:(fun v w'=>(_→v=_)∧_)=RR
      have HR:=hid hR
      clear hR g1 g2 hl
      refine mV ?_
      have HC:=hid (SuI.put1 hx0 key hl0)
      go_wp2_with fail
      refine HC.out.mono ?_
      rintro e X2 ⟨rfl,hq2⟩
      have HE:Hid ((Ch { wr with drawn:=wr.drawn+1 } (SuI w B T c ow R E r) (s) (.int .i64 (putI s.i1 (mostI c.old) key r.num).1) ({ s with i1:=(putI s.i1 (mostI c.old) key r.num).2 }) ({ s with e:=C.note s.e (putI s.i1 (mostI c.old) key r.num).1,i1:=(putI s.i1 (mostI c.old) key r.num).2 })) [.int .i64 (putI s.i1 (mostI c.old) key r.num).1] X2):=hid (⟨rfl,hq2⟩)
      clear HC
      go_wp2_with fail
      have hR:=HR.out
      subst hR
      exact ⟨rfl,fun _=>rfl,HE.out⟩
     case nt =>
      intro ms X g1 g2 hx
      have hl:ms.length=1:=Nat.le_antisymm (Nat.le_trans g2 (by decide +kernel)) (Nat.le_trans (by decide +kernel) g1)
      obtain ⟨v0,rfl⟩:=P.ls1 hl
      obtain ⟨rfl,hx1⟩:=hx
      refine mM ?_
      generalize hR:(fun v w'=>(_→v=_)∧_)=RR
      have HR:=hid hR
      clear hR g1 g2 hl
      refine mV ?_
      have HC:=hid (SuI.note hx1 ((putI s.i1 (mostI c.old) key r.num).1))
      go_wp2_with fail
      refine HC.out.mono ?_
      rintro e X2 ⟨rfl,hq2⟩
      have HE:Hid ((Ch { wr with drawn:=wr.drawn+1 } (SuI w B T c ow R E r) (s) (.int .i64 (putI s.i1 (mostI c.old) key r.num).1) ({ s with i1:=(putI s.i1 (mostI c.old) key r.num).2 }) ({ s with e:=C.note s.e (putI s.i1 (mostI c.old) key r.num).1,i1:=(putI s.i1 (mostI c.old) key r.num).2 })) [.int .i64 (putI s.i1 (mostI c.old) key r.num).1,.tuple #[]] X2):=hid (hq2)
      clear HC
      go_wp2_with fail
      have hR:=HR.out
      subst hR
      exact ⟨rfl,fun _=>rfl,HE.out⟩
    ·intro ms X hl hx
     obtain ⟨v0,v1,rfl⟩:=P.ls2 hl
     have hI2:SuI w B T c ow R E r ({ s with e:=C.note s.e (putI s.i1 (mostI c.old) key r.num).1,i1:=(putI s.i1 (mostI c.old) key r.num).2 }) X:=hx
     refine mV ?_
     clear hl hx hI
     obtain ⟨S,hS⟩:∃ S:SumS,{ s with e:=C.note s.e (putI s.i1 (mostI c.old) key r.num).1,i1:=(putI s.i1 (mostI c.old) key r.num).2 }=S:=⟨_,rfl⟩
     rw [hS] at hI2
     obtain ⟨r0,-,-,-,-,-,-,r7⟩:=row8 hI2.qR
     have hl:=hI2.lt
     obtain ⟨ro,hro⟩:∃ b,r.out=b:=⟨_,rfl⟩
     rw [hro] at r7
     have HO:=hid hro
     clear hro
     cases ro
     ·go_wp2_with fail
      go_roundw
      case rel=>exact FIN.out S _ hI2 (by rw [←hS,HO.out];rfl)
      case measure=>simp [intOf];omega
     ·have hI:=hI2
      go_upto_region 8 with fail
      clear r0 r7 hI2
      obtain ⟨Xo,rfl⟩:∃ y,y=X:=⟨_,rfl⟩
      refine wp_region_chainV [(0,fun _=>.func (.func 119) #[] #[.pointer (some ⟨E,0,none⟩)]),(0,fun _=>.pointer (some ⟨T,0,none⟩)),(0,fun _=>.pointer (some ⟨T,0,none⟩)),(0,fun _=>.pointer (some ⟨T,6,none⟩)),(0,fun _=>.pointer (some ⟨c.t2,0,none⟩)),(0,fun _=>.float .f64 key),(0,fun _=>.pointer (some ⟨R,0,none⟩)),(0,fun _=>.pointer (some ⟨R,0,none⟩)),(0,fun _=>.int .i64 r.num),(1,fun ms=>ms.getD 0 undef),(2,fun ms=>ms.getD 1 undef)] (Ch { Xo with drawn:=Xo.drawn+1 } (SuI w B T c ow R E r) (S) (.int .i64 (putI S.i2 (mostI c.old) key r.num).1) ({ S with i2:=(putI S.i2 (mostI c.old) key r.num).2 }) ({ S with e:=C.note S.e (putI S.i2 (mostI c.old) key r.num).1,i2:=(putI S.i2 (mostI c.old) key r.num).2 })) (fun _ _=>False) [9,10] rfl (by kernel_rfl) (by kernel_rfl) (by kernel_rfl) (by decide) (by decide) ⟨rfl,hI.below (Below.drew (Below.refl _ _))⟩ ?_ ?_ ?_
      ·simp only [StepsV,List.nil_append,List.cons_append,Nat.zero_add,Nat.reduceAdd]
       refine ⟨?p0,?p1,?p2,?p3,?ld,?ky,?p6,?p7,?l8,?pt,?nt,trivial⟩
       case p0 =>
        intro ms X g1 g2 hx
        refine mM ?_
        generalize hR:(fun v w'=>(_→v=_)∧_)=RR
        have HR:=hid hR
        have HXX:=hid hx
        clear hR g1 g2 hx
        try refine mV ?_
        go_wp2_with fail
        have hR:=HR.out
        subst hR
        exact ⟨rfl,fun _=>rfl,HXX.out⟩
       case p1 =>
        intro ms X g1 g2 hx
        refine mM ?_
        generalize hR:(fun v w'=>(_→v=_)∧_)=RR
        have HR:=hid hR
        have HXX:=hid hx
        clear hR g1 g2 hx
        try refine mV ?_
        go_wp2_with fail
        have hR:=HR.out
        subst hR
        exact ⟨rfl,fun _=>rfl,HXX.out⟩
       case p2 =>
        intro ms X g1 g2 hx
        refine mM ?_
        generalize hR:(fun v w'=>(_→v=_)∧_)=RR
        have HR:=hid hR
        have HXX:=hid hx
        clear hR g1 g2 hx
        try refine mV ?_
        go_wp2_with fail
        have hR:=HR.out
        subst hR
        exact ⟨rfl,fun _=>rfl,HXX.out⟩
       case p3 =>
        intro ms X g1 g2 hx
        refine mM ?_
        generalize hR:(fun v w'=>(_→v=_)∧_)=RR
        have HR:=hid hR
        have HXX:=hid hx
        clear hR g1 g2 hx
        try refine mV ?_
        go_wp2_with fail
        have hR:=HR.out
        subst hR
        exact ⟨rfl,fun _=>rfl,HXX.out⟩
       case ld =>
        intro ms X g1 g2 hx
        obtain ⟨g5,g6,g7,g8,gR⟩:=HC.out X (Ch.any hx)
        refine mM ?_
        generalize hR:(fun v w'=>(_→v=_)∧_)=RR
        have HR:=hid hR
        have HXX:=hid hx
        clear hR g1 g2 hx
        try refine mV ?_
        go_wp2_with fail
        have hR:=HR.out
        subst hR
        exact ⟨rfl,fun _=>rfl,HXX.out⟩
       case ky =>
        intro ms X g1 g2 hx
        refine mM ?_
        generalize hR:(fun v w'=>(_→v=_)∧_)=RR
        have HR:=hid hR
        have HXX:=hid hx
        clear hR g1 g2 hx
        try refine mV ?_
        go_wp2_with fail
        have hR:=HR.out
        subst hR
        exact ⟨rfl,fun _=>rfl,HXX.out⟩
       case p6 =>
        intro ms X g1 g2 hx
        refine mM ?_
        generalize hR:(fun v w'=>(_→v=_)∧_)=RR
        have HR:=hid hR
        have HXX:=hid hx
        clear hR g1 g2 hx
        try refine mV ?_
        go_wp2_with fail
        have hR:=HR.out
        subst hR
        exact ⟨rfl,fun _=>rfl,HXX.out⟩
       case p7 =>
        intro ms X g1 g2 hx
        refine mM ?_
        generalize hR:(fun v w'=>(_→v=_)∧_)=RR
        have HR:=hid hR
        have HXX:=hid hx
        clear hR g1 g2 hx
        try refine mV ?_
        go_wp2_with fail
        have hR:=HR.out
        subst hR
        exact ⟨rfl,fun _=>rfl,HXX.out⟩
       case l8 =>
        intro ms X g1 g2 hx
        obtain ⟨g5,g6,g7,g8,gR⟩:=HC.out X (Ch.any hx)
        refine mM ?_
        generalize hR:(fun v w'=>(_→v=_)∧_)=RR
        have HR:=hid hR
        have HXX:=hid hx
        clear hR g1 g2 hx
        try refine mV ?_
        go_wp2_with fail
        have hR:=HR.out
        subst hR
        exact ⟨rfl,fun _=>rfl,HXX.out⟩
       case pt =>
        intro ms X g1 g2 hx
        have hl:ms.length=0:=Nat.le_antisymm (Nat.le_trans g2 (by decide +kernel)) (Nat.le_trans (by decide +kernel) g1)
        obtain rfl:=P.ls0 hl
        have hx0:SuI w B T c ow R E r (S) X:=hx.2
        refine mM ?_
        generalize hR:(fun v w'=>(_→v=_)∧_)=RR
        have HR:=hid hR
        clear hR g1 g2 hl
        refine mV ?_
        have HC:=hid (SuI.put2 hx0 key hl0)
        go_wp2_with fail
        refine HC.out.mono ?_
        rintro e X2 ⟨rfl,hq2⟩
        have HE:Hid ((Ch { Xo with drawn:=Xo.drawn+1 } (SuI w B T c ow R E r) (S) (.int .i64 (putI S.i2 (mostI c.old) key r.num).1) ({ S with i2:=(putI S.i2 (mostI c.old) key r.num).2 }) ({ S with e:=C.note S.e (putI S.i2 (mostI c.old) key r.num).1,i2:=(putI S.i2 (mostI c.old) key r.num).2 })) [.int .i64 (putI S.i2 (mostI c.old) key r.num).1] X2):=hid (⟨rfl,hq2⟩)
        clear HC
        go_wp2_with fail
        have hR:=HR.out
        subst hR
        exact ⟨rfl,fun _=>rfl,HE.out⟩
       case nt =>
        intro ms X g1 g2 hx
        have hl:ms.length=1:=Nat.le_antisymm (Nat.le_trans g2 (by decide +kernel)) (Nat.le_trans (by decide +kernel) g1)
        obtain ⟨v0,rfl⟩:=P.ls1 hl
        obtain ⟨rfl,hx1⟩:=hx
        refine mM ?_
        generalize hR:(fun v w'=>(_→v=_)∧_)=RR
        have HR:=hid hR
        clear hR g1 g2 hl
        refine mV ?_
        have HC:=hid (SuI.note hx1 ((putI S.i2 (mostI c.old) key r.num).1))
        go_wp2_with fail
        refine HC.out.mono ?_
        rintro e X2 ⟨rfl,hq2⟩
        have HE:Hid ((Ch { Xo with drawn:=Xo.drawn+1 } (SuI w B T c ow R E r) (S) (.int .i64 (putI S.i2 (mostI c.old) key r.num).1) ({ S with i2:=(putI S.i2 (mostI c.old) key r.num).2 }) ({ S with e:=C.note S.e (putI S.i2 (mostI c.old) key r.num).1,i2:=(putI S.i2 (mostI c.old) key r.num).2 })) [.int .i64 (putI S.i2 (mostI c.old) key r.num).1,.tuple #[]] X2):=hid (hq2)
        clear HC
        go_wp2_with fail
        have hR:=HR.out
        subst hR
        exact ⟨rfl,fun _=>rfl,HE.out⟩
      ·intro ms X hl hx
       obtain ⟨v0,v1,rfl⟩:=P.ls2 hl
       have hI2:SuI w B T c ow R E r ({ S with e:=C.note S.e (putI S.i2 (mostI c.old) key r.num).1,i2:=(putI S.i2 (mostI c.old) key r.num).2 }) X:=hx
       refine mV ?_
       clear hl hx hI
       go_wp2_with fail
       go_roundw
       case rel=>exact FIN.out _ _ hI2 (by rw [←hS,HO.out];rfl)
       case measure=>simp [intOf];omega
      ·exact fun _ _ _ _ hx=>hx.elim
    ·exact fun _ _ _ _ hx=>hx.elim
  ·as_aux_lemma =>
    obtain rfl:k=r.s.ws.length:=by omega
    rw [List.take_of_length_le (Nat.le_refl _)] at hI
    obtain ⟨S,hS⟩:∃ S:SumS,sWs (mostI c.old) r.num r.out ⟨0,c.i1,c.i2,c.i3,c.i4⟩ r.s.ws=S:=⟨_,rfl⟩
    rw [hS] at hI
    have HS1:=hid hS
    clear hS hlt hk hm
    obtain ⟨wo,rfl⟩:∃ x,x=wr:=⟨_,rfl⟩
    obtain ⟨r0,r1,r2,r3,r4,r5,r6,r7⟩:=row8 hI.qR
    have hl:=hI.lt
    go_upto_region 11 with fail
    clear r0 r1 r2 r3 r4 r5 r6 r7 hl
    go_loopw [54] (fun i wr=>∃ k:Nat,k≤r.s.rs.length∧i=.int .i64 k∧SuI w B T c ow R E r (sRs (mostI c.old) r.num S (r.s.rs.take k)) wr) (fun i _=>r.s.rs.length-(intOf i).toNat)
    case atStart=>exact ⟨0,Nat.zero_le _,rfl,hI⟩
    case round =>
     clear hI
     obtain ⟨k,hk,rfl,hI⟩:=hrel
     have hm:=(hI.subs hr).r.len
     unfold maxLen at hm
     by_cases hlt:k<r.s.rs.length
     ·as_aux_lemma =>
       obtain ⟨b,o,hwa,hb,c0,hl0⟩:=fat_get (hI.subs hr).r k hlt
       have hlt':(k:Int)<(r.s.rs.length:Int):=by omega
       have hkx:=fl_some (xs:=r.s.rs) (k:=k) hlt
       have hsn:=hid ((congrArg (sRs (mostI c.old) r.num S) (take_snoc hkx)).trans (sRs_snoc _ _ _ _ _))
       clear hkx
       generalize r.s.rs[k]?.getD 0=key at *
       generalize sRs (mostI c.old) r.num S (r.s.rs.take k)=s at *
       have FIN:=hid fun (s':SumS) (X:World) (hX:SuI w B T c ow R E r s' X) (e:s'=sR (mostI c.old) r.num s key)=>(show ∃ k':Nat,k'≤r.s.rs.length∧Value.int .i64 ((k:Int)+1)=.int .i64 k'∧SuI w B T c ow R E r (sRs (mostI c.old) r.num S (r.s.rs.take k')) X from ⟨k+1,by omega,by go_num,by rw [hsn.out,←e];exact hX⟩)
       rw [hwa]
       go_upto_region 13 with fail
       refine wp_region_chainV [(0,fun _=>.func (.func 119) #[] #[.pointer (some ⟨E,0,none⟩)]),(0,fun _=>.pointer (some ⟨T,0,none⟩)),(0,fun _=>.pointer (some ⟨T,0,none⟩)),(0,fun _=>.pointer (some ⟨T,7,none⟩)),(0,fun _=>.pointer (some ⟨c.t3,0,none⟩)),(0,fun _=>.float .f64 key),(0,fun _=>.pointer (some ⟨R,0,none⟩)),(0,fun _=>.pointer (some ⟨R,0,none⟩)),(0,fun _=>.int .i64 r.num),(1,fun ms=>ms.getD 0 undef),(2,fun ms=>ms.getD 1 undef)] (Ch { wr with drawn:=wr.drawn+1 } (SuI w B T c ow R E r) (s) (.int .i64 (putI s.i3 (mostI c.old) key r.num).1) ({ s with i3:=(putI s.i3 (mostI c.old) key r.num).2 }) ({ s with e:=C.note s.e (putI s.i3 (mostI c.old) key r.num).1,i3:=(putI s.i3 (mostI c.old) key r.num).2 })) (fun _ _=>False) [9,10] rfl (by kernel_rfl) (by kernel_rfl) (by kernel_rfl) (by decide) (by decide) ⟨rfl,hI.below (Below.drew (Below.refl _ _))⟩ ?_ ?_ ?_
       ·simp only [StepsV,List.nil_append,List.cons_append,Nat.zero_add,Nat.reduceAdd]
        refine ⟨?p0,?p1,?p2,?p3,?ld,?ky,?p6,?p7,?l8,?pt,?nt,trivial⟩
        case p0 =>
         intro ms X g1 g2 hx
         refine mM ?_
         generalize hR:(fun v w'=>(_→v=_)∧_)=RR
         have HR:=hid hR
         have HXX:=hid hx
         clear hR g1 g2 hx
         try refine mV ?_
         go_wp2_with fail
         have hR:=HR.out
         subst hR
         exact ⟨rfl,fun _=>rfl,HXX.out⟩
        case p1 =>
         intro ms X g1 g2 hx
         refine mM ?_
         generalize hR:(fun v w'=>(_→v=_)∧_)=RR
         have HR:=hid hR
         have HXX:=hid hx
         clear hR g1 g2 hx
         try refine mV ?_
         go_wp2_with fail
         have hR:=HR.out
         subst hR
         exact ⟨rfl,fun _=>rfl,HXX.out⟩
        case p2 =>
         intro ms X g1 g2 hx
         refine mM ?_
         generalize hR:(fun v w'=>(_→v=_)∧_)=RR
         have HR:=hid hR
         have HXX:=hid hx
         clear hR g1 g2 hx
         try refine mV ?_
         go_wp2_with fail
         have hR:=HR.out
         subst hR
         exact ⟨rfl,fun _=>rfl,HXX.out⟩
        case p3 =>
         intro ms X g1 g2 hx
         refine mM ?_
         generalize hR:(fun v w'=>(_→v=_)∧_)=RR
         have HR:=hid hR
         have HXX:=hid hx
         clear hR g1 g2 hx
         try refine mV ?_
         go_wp2_with fail
         have hR:=HR.out
         subst hR
         exact ⟨rfl,fun _=>rfl,HXX.out⟩
        case ld =>
         intro ms X g1 g2 hx
         obtain ⟨g5,g6,g7,g8,gR⟩:=HC.out X (Ch.any hx)
         refine mM ?_
         generalize hR:(fun v w'=>(_→v=_)∧_)=RR
         have HR:=hid hR
         have HXX:=hid hx
         clear hR g1 g2 hx
         try refine mV ?_
         go_wp2_with fail
         have hR:=HR.out
         subst hR
         exact ⟨rfl,fun _=>rfl,HXX.out⟩
        case ky =>
         intro ms X g1 g2 hx
         refine mM ?_
         generalize hR:(fun v w'=>(_→v=_)∧_)=RR
         have HR:=hid hR
         have HXX:=hid hx
         clear hR g1 g2 hx
         try refine mV ?_
         go_wp2_with fail
         have hR:=HR.out
         subst hR
         exact ⟨rfl,fun _=>rfl,HXX.out⟩
        case p6 =>
         intro ms X g1 g2 hx
         refine mM ?_
         generalize hR:(fun v w'=>(_→v=_)∧_)=RR
         have HR:=hid hR
         have HXX:=hid hx
         clear hR g1 g2 hx
         try refine mV ?_
         go_wp2_with fail
         have hR:=HR.out
         subst hR
         exact ⟨rfl,fun _=>rfl,HXX.out⟩
        case p7 =>
         intro ms X g1 g2 hx
         refine mM ?_
         generalize hR:(fun v w'=>(_→v=_)∧_)=RR
         have HR:=hid hR
         have HXX:=hid hx
         clear hR g1 g2 hx
         try refine mV ?_
         go_wp2_with fail
         have hR:=HR.out
         subst hR
         exact ⟨rfl,fun _=>rfl,HXX.out⟩
        case l8 =>
         intro ms X g1 g2 hx
         obtain ⟨g5,g6,g7,g8,gR⟩:=HC.out X (Ch.any hx)
         refine mM ?_
         generalize hR:(fun v w'=>(_→v=_)∧_)=RR
         have HR:=hid hR
         have HXX:=hid hx
         clear hR g1 g2 hx
         try refine mV ?_
         go_wp2_with fail
         have hR:=HR.out
         subst hR
         exact ⟨rfl,fun _=>rfl,HXX.out⟩
        case pt =>
         intro ms X g1 g2 hx
         have hl:ms.length=0:=Nat.le_antisymm (Nat.le_trans g2 (by decide +kernel)) (Nat.le_trans (by decide +kernel) g1)
         obtain rfl:=P.ls0 hl
         have hx0:SuI w B T c ow R E r (s) X:=hx.2
         refine mM ?_
         generalize hR:(fun v w'=>(_→v=_)∧_)=RR
         have HR:=hid hR
         clear hR g1 g2 hl
         refine mV ?_
         have HC:=hid (SuI.put3 hx0 key hl0)
         go_wp2_with fail
         refine HC.out.mono ?_
         rintro e X2 ⟨rfl,hq2⟩
         have HE:Hid ((Ch { wr with drawn:=wr.drawn+1 } (SuI w B T c ow R E r) (s) (.int .i64 (putI s.i3 (mostI c.old) key r.num).1) ({ s with i3:=(putI s.i3 (mostI c.old) key r.num).2 }) ({ s with e:=C.note s.e (putI s.i3 (mostI c.old) key r.num).1,i3:=(putI s.i3 (mostI c.old) key r.num).2 })) [.int .i64 (putI s.i3 (mostI c.old) key r.num).1] X2):=hid (⟨rfl,hq2⟩)
         clear HC
         go_wp2_with fail
         have hR:=HR.out
         subst hR
         exact ⟨rfl,fun _=>rfl,HE.out⟩
        case nt =>
         intro ms X g1 g2 hx
         have hl:ms.length=1:=Nat.le_antisymm (Nat.le_trans g2 (by decide +kernel)) (Nat.le_trans (by decide +kernel) g1)
         obtain ⟨v0,rfl⟩:=P.ls1 hl
         obtain ⟨rfl,hx1⟩:=hx
         refine mM ?_
         generalize hR:(fun v w'=>(_→v=_)∧_)=RR
         have HR:=hid hR
         clear hR g1 g2 hl
         refine mV ?_
         have HC:=hid (SuI.note hx1 ((putI s.i3 (mostI c.old) key r.num).1))
         go_wp2_with fail
         refine HC.out.mono ?_
         rintro e X2 ⟨rfl,hq2⟩
         have HE:Hid ((Ch { wr with drawn:=wr.drawn+1 } (SuI w B T c ow R E r) (s) (.int .i64 (putI s.i3 (mostI c.old) key r.num).1) ({ s with i3:=(putI s.i3 (mostI c.old) key r.num).2 }) ({ s with e:=C.note s.e (putI s.i3 (mostI c.old) key r.num).1,i3:=(putI s.i3 (mostI c.old) key r.num).2 })) [.int .i64 (putI s.i3 (mostI c.old) key r.num).1,.tuple #[]] X2):=hid (hq2)
         clear HC
         go_wp2_with fail
         have hR:=HR.out
         subst hR
         exact ⟨rfl,fun _=>rfl,HE.out⟩
       ·intro ms X hl hx
        obtain ⟨v0,v1,rfl⟩:=P.ls2 hl
        have hI2:SuI w B T c ow R E r ({ s with e:=C.note s.e (putI s.i3 (mostI c.old) key r.num).1,i3:=(putI s.i3 (mostI c.old) key r.num).2 }) X:=hx
        refine mV ?_
        clear hl hx hI
        go_wp2_with fail
        go_roundw
        case rel=>exact FIN.out _ _ hI2 rfl
        case measure=>simp [intOf];omega
       ·exact fun _ _ _ _ hx=>hx.elim
     ·as_aux_lemma =>
       obtain rfl:k=r.s.rs.length:=by omega
       rw [List.take_of_length_le (Nat.le_refl _)] at hI
       obtain ⟨S',hS⟩:∃ S':SumS,sRs (mostI c.old) r.num S r.s.rs=S':=⟨_,rfl⟩
       rw [hS] at hI
       have HS2:=hid hS
       clear hS hlt hk hm
       obtain ⟨wp,rfl⟩:∃ x,x=wr:=⟨_,rfl⟩
       obtain ⟨r0,r1,r2,r3,r4,r5,r6,r7⟩:=row8 hI.qR
       have hl:=hI.lt
       go_upto_region 16 with fail
       clear r0 r1 r2 r3 r4 r5 r6 r7 hl
       go_loopw [75] (fun i wr=>∃ k:Nat,k≤r.s.ss.length∧i=.int .i64 k∧SuI w B T c ow R E r (sSs (mostI c.old) r.num S' (r.s.ss.take k)) wr) (fun i _=>r.s.ss.length-(intOf i).toNat)
       case atStart=>exact ⟨0,Nat.zero_le _,rfl,hI⟩
       case round =>
        clear hI
        obtain ⟨k,hk,rfl,hI⟩:=hrel
        have hm:=(hI.subs hr).s.len
        unfold maxLen at hm
        by_cases hlt:k<r.s.ss.length
        ·as_aux_lemma =>
          obtain ⟨b,o,hwa,hb,⟨d0,d1,d2,d3⟩,hl1,hl2⟩:=sat_get (hI.subs hr).s k hlt
          have hlt':(k:Int)<(r.s.ss.length:Int):=by omega
          have hkx:=sp_some (ss:=r.s.ss) (k:=k) hlt
          have hsn:=hid ((congrArg (sSs (mostI c.old) r.num S') (take_snoc hkx)).trans (sSs_snoc _ _ _ _ _))
          clear hkx
          generalize r.s.ss[k]?.getD default=key at *
          generalize sSs (mostI c.old) r.num S' (r.s.ss.take k)=s at *
          have FIN:=hid fun (s':SumS) (X:World) (hX:SuI w B T c ow R E r s' X) (e:s'=sS (mostI c.old) r.num s key)=>(show ∃ k':Nat,k'≤r.s.ss.length∧Value.int .i64 ((k:Int)+1)=.int .i64 k'∧SuI w B T c ow R E r (sSs (mostI c.old) r.num S' (r.s.ss.take k')) X from ⟨k+1,by omega,by go_num,by rw [hsn.out,←e];exact hX⟩)
          rw [hwa]
          go_upto_region 18 with fail
          generalize hW5:World.alloc wr _=w5
          have hb5:Below wr.heap.size wr w5:=by rw [←hW5];exact below_auto
          have hI:=hI.below hb5
          have qk:w5.heap[wr.heap.size]? = some (.cells #[.float .f64 key.lo,.float .f64 key.hi,.bool key.a,.bool key.b] 150 (0,0)):=by rw [←hW5];exact heap_alloc_new wr _
          have QK:=hid (fun X (h:X = { w5 with drawn:=w5.drawn+1 })=>(show X.cell? ⟨wr.heap.size,0,none⟩=some (.float .f64 key.lo)∧X.cell? ⟨wr.heap.size,1,none⟩=some (.float .f64 key.hi)∧X.cell? ⟨wr.heap.size,2,none⟩=some (.bool key.a)∧X.cell? ⟨wr.heap.size,3,none⟩=some (.bool key.b) from by rw [h];exact ⟨cell_row qk 0,cell_row qk 1,cell_row qk 2,cell_row qk 3⟩))
          clear hW5 qk hb5 d0 d1 d2 d3
          refine wp_region_chainV [(0,fun _=>.func (.func 119) #[] #[.pointer (some ⟨E,0,none⟩)]),(0,fun _=>.pointer (some ⟨T,0,none⟩)),(0,fun _=>.pointer (some ⟨T,0,none⟩)),(0,fun _=>.pointer (some ⟨T,8,none⟩)),(0,fun _=>.pointer (some ⟨c.t4,0,none⟩)),(0,fun _=>.agg #[.float .f64 key.lo,.float .f64 key.hi,.bool key.a,.bool key.b]),(0,fun _=>.pointer (some ⟨R,0,none⟩)),(0,fun _=>.pointer (some ⟨R,0,none⟩)),(0,fun _=>.int .i64 r.num),(1,fun ms=>ms.getD 0 undef),(2,fun ms=>ms.getD 1 undef)] (Ch { w5 with drawn:=w5.drawn+1 } (SuI w B T c ow R E r) (s) (.int .i64 (Q.putI s.i4 (mostI c.old) key.rg r.num).1) ({ s with i4:=(Q.putI s.i4 (mostI c.old) key.rg r.num).2 }) ({ s with e:=C.note s.e (Q.putI s.i4 (mostI c.old) key.rg r.num).1,i4:=(Q.putI s.i4 (mostI c.old) key.rg r.num).2 })) (fun _ _=>False) [9,10] rfl (by kernel_rfl) (by kernel_rfl) (by kernel_rfl) (by decide) (by decide) ⟨rfl,hI.below (Below.drew (Below.refl _ _))⟩ ?_ ?_ ?_
          ·simp only [StepsV,List.nil_append,List.cons_append,Nat.zero_add,Nat.reduceAdd]
           refine ⟨?p0,?p1,?p2,?p3,?ld,?ky,?p6,?p7,?l8,?pt,?nt,trivial⟩
           case p0 =>
            intro ms X g1 g2 hx
            refine mM ?_
            generalize hR:(fun v w'=>(_→v=_)∧_)=RR
            have HR:=hid hR
            have HXX:=hid hx
            clear hR g1 g2 hx
            try refine mV ?_
            go_wp2_with fail
            have hR:=HR.out
            subst hR
            exact ⟨rfl,fun _=>rfl,HXX.out⟩
           case p1 =>
            intro ms X g1 g2 hx
            refine mM ?_
            generalize hR:(fun v w'=>(_→v=_)∧_)=RR
            have HR:=hid hR
            have HXX:=hid hx
            clear hR g1 g2 hx
            try refine mV ?_
            go_wp2_with fail
            have hR:=HR.out
            subst hR
            exact ⟨rfl,fun _=>rfl,HXX.out⟩
           case p2 =>
            intro ms X g1 g2 hx
            refine mM ?_
            generalize hR:(fun v w'=>(_→v=_)∧_)=RR
            have HR:=hid hR
            have HXX:=hid hx
            clear hR g1 g2 hx
            try refine mV ?_
            go_wp2_with fail
            have hR:=HR.out
            subst hR
            exact ⟨rfl,fun _=>rfl,HXX.out⟩
           case p3 =>
            intro ms X g1 g2 hx
            refine mM ?_
            generalize hR:(fun v w'=>(_→v=_)∧_)=RR
            have HR:=hid hR
            have HXX:=hid hx
            clear hR g1 g2 hx
            try refine mV ?_
            go_wp2_with fail
            have hR:=HR.out
            subst hR
            exact ⟨rfl,fun _=>rfl,HXX.out⟩
           case ld =>
            intro ms X g1 g2 hx
            obtain ⟨g5,g6,g7,g8,gR⟩:=HC.out X (Ch.any hx)
            refine mM ?_
            generalize hR:(fun v w'=>(_→v=_)∧_)=RR
            have HR:=hid hR
            have HXX:=hid hx
            clear hR g1 g2 hx
            try refine mV ?_
            go_wp2_with fail
            have hR:=HR.out
            subst hR
            exact ⟨rfl,fun _=>rfl,HXX.out⟩
           case ky =>
            intro ms X g1 g2 hx
            obtain rfl:ms=[]:=List.eq_nil_of_length_eq_zero (Nat.le_antisymm (Nat.le_trans g2 (by decide +kernel)) (Nat.zero_le _))
            obtain ⟨k0,k1,k2,k3⟩:=QK.out X hx.1
            refine mM ?_
            generalize hR:(fun v w'=>(_→v=_)∧_)=RR
            have HR:=hid hR
            have HXX:=hid hx
            clear hR g1 g2 hx
            try refine mV ?_
            go_wp2_with fail
            have hR:=HR.out
            subst hR
            exact ⟨rfl,fun _=>rfl,HXX.out⟩
           case p6 =>
            intro ms X g1 g2 hx
            refine mM ?_
            generalize hR:(fun v w'=>(_→v=_)∧_)=RR
            have HR:=hid hR
            have HXX:=hid hx
            clear hR g1 g2 hx
            try refine mV ?_
            go_wp2_with fail
            have hR:=HR.out
            subst hR
            exact ⟨rfl,fun _=>rfl,HXX.out⟩
           case p7 =>
            intro ms X g1 g2 hx
            refine mM ?_
            generalize hR:(fun v w'=>(_→v=_)∧_)=RR
            have HR:=hid hR
            have HXX:=hid hx
            clear hR g1 g2 hx
            try refine mV ?_
            go_wp2_with fail
            have hR:=HR.out
            subst hR
            exact ⟨rfl,fun _=>rfl,HXX.out⟩
           case l8 =>
            intro ms X g1 g2 hx
            obtain ⟨g5,g6,g7,g8,gR⟩:=HC.out X (Ch.any hx)
            refine mM ?_
            generalize hR:(fun v w'=>(_→v=_)∧_)=RR
            have HR:=hid hR
            have HXX:=hid hx
            clear hR g1 g2 hx
            try refine mV ?_
            go_wp2_with fail
            have hR:=HR.out
            subst hR
            exact ⟨rfl,fun _=>rfl,HXX.out⟩
           case pt =>
            intro ms X g1 g2 hx
            have hl:ms.length=0:=Nat.le_antisymm (Nat.le_trans g2 (by decide +kernel)) (Nat.le_trans (by decide +kernel) g1)
            obtain rfl:=P.ls0 hl
            have hx0:SuI w B T c ow R E r (s) X:=hx.2
            refine mM ?_
            generalize hR:(fun v w'=>(_→v=_)∧_)=RR
            have HR:=hid hR
            clear hR g1 g2 hl
            refine mV ?_
            have HC:=hid (SuI.put4 hx0 key hl1 hl2)
            go_wp2_with fail
            refine HC.out.mono ?_
            rintro e X2 ⟨rfl,hq2⟩
            have HE:Hid ((Ch { w5 with drawn:=w5.drawn+1 } (SuI w B T c ow R E r) (s) (.int .i64 (Q.putI s.i4 (mostI c.old) key.rg r.num).1) ({ s with i4:=(Q.putI s.i4 (mostI c.old) key.rg r.num).2 }) ({ s with e:=C.note s.e (Q.putI s.i4 (mostI c.old) key.rg r.num).1,i4:=(Q.putI s.i4 (mostI c.old) key.rg r.num).2 })) [.int .i64 (Q.putI s.i4 (mostI c.old) key.rg r.num).1] X2):=hid (⟨rfl,hq2⟩)
            clear HC
            go_wp2_with fail
            have hR:=HR.out
            subst hR
            exact ⟨rfl,fun _=>rfl,HE.out⟩
           case nt =>
            intro ms X g1 g2 hx
            have hl:ms.length=1:=Nat.le_antisymm (Nat.le_trans g2 (by decide +kernel)) (Nat.le_trans (by decide +kernel) g1)
            obtain ⟨v0,rfl⟩:=P.ls1 hl
            obtain ⟨rfl,hx1⟩:=hx
            refine mM ?_
            generalize hR:(fun v w'=>(_→v=_)∧_)=RR
            have HR:=hid hR
            clear hR g1 g2 hl
            refine mV ?_
            have HC:=hid (SuI.note hx1 ((Q.putI s.i4 (mostI c.old) key.rg r.num).1))
            go_wp2_with fail
            refine HC.out.mono ?_
            rintro e X2 ⟨rfl,hq2⟩
            have HE:Hid ((Ch { w5 with drawn:=w5.drawn+1 } (SuI w B T c ow R E r) (s) (.int .i64 (Q.putI s.i4 (mostI c.old) key.rg r.num).1) ({ s with i4:=(Q.putI s.i4 (mostI c.old) key.rg r.num).2 }) ({ s with e:=C.note s.e (Q.putI s.i4 (mostI c.old) key.rg r.num).1,i4:=(Q.putI s.i4 (mostI c.old) key.rg r.num).2 })) [.int .i64 (Q.putI s.i4 (mostI c.old) key.rg r.num).1,.tuple #[]] X2):=hid (hq2)
            clear HC
            go_wp2_with fail
            have hR:=HR.out
            subst hR
            exact ⟨rfl,fun _=>rfl,HE.out⟩
          ·intro ms X hl hx
           obtain ⟨v0,v1,rfl⟩:=P.ls2 hl
           have hI2:SuI w B T c ow R E r ({ s with e:=C.note s.e (Q.putI s.i4 (mostI c.old) key.rg r.num).1,i4:=(Q.putI s.i4 (mostI c.old) key.rg r.num).2 }) X:=hx
           refine mV ?_
           clear hl hx hI
           go_wp2_with fail
           go_roundw
           case rel=>exact FIN.out _ _ hI2 rfl
           case measure=>simp [intOf];omega
          ·exact fun _ _ _ _ hx=>hx.elim
        ·as_aux_lemma =>
          obtain rfl:k=r.s.ss.length:=by omega
          rw [List.take_of_length_le (Nat.le_refl _)] at hI
          obtain ⟨S'',hS⟩:∃ S'':SumS,sSs (mostI c.old) r.num S' r.s.ss=S'':=⟨_,rfl⟩
          rw [hS] at hI
          have HSU:Hid (sumS c r=S''):=hid (by unfold sumS;rw [HS1.out,HS2.out,hS])
          clear hS hlt hk hm HS1 HS2
          obtain ⟨wq,rfl⟩:∃ x,x=wr:=⟨_,rfl⟩
          obtain ⟨ow',hC,hF,zR,zE⟩:=hI.ex
          have hl:=hI.lt
          have qE:=cell_row hI.qE 0
          have qE:wq.cell? ⟨E,0,none⟩=some (.int .i64 S''.e):=qE
          by_cases he:S''.e=0
          ·have hsum:c.sum r=c.with S'':=by unfold CL.sum;rw [HSU.out];exact if_pos he
           have hb:(S''.e == 0)=true:=by simpa using he
           have HF:=hid (show ∃ ow',CAt B T (c.sum r) ow' wq∧Fr ow ow' w wq from ⟨ow',by rw [hsum];exact hC,hF⟩)
           clear he hC hF hI hsum
           go_wp2_with fail
           go_end0
           exact ⟨rfl,HF.out⟩
          ·have hb:(S''.e == 0)=false:=by simpa using he
           go_upto_region 21 with fail
           clear hb qE
           obtain ⟨-,-,-,-,-,g5,g6,g7,g8⟩:=row9 hC.box
           go_region
           generalize hW6:World.drew _=w6
           have hb6:Below wq.heap.size wq w6:=by rw [←hW6];exact below_auto
           obtain ⟨G,hG⟩:∃ G,G=wq.heap.size:=⟨_,rfl⟩
           have qG:w6.heap[G]? = some (.cells #[.iface 105 (.pointer (some ⟨c.t1,0,none⟩)),.iface 105 (.pointer (some ⟨c.t2,0,none⟩)),.iface 105 (.pointer (some ⟨c.t3,0,none⟩)),.iface 107 (.pointer (some ⟨c.t4,0,none⟩))] 231 (0,0)):=by rw [←hW6,hG];exact heap_alloc_new wq _
           have zG:ow' G=0:=Classical.byContradiction fun h0=>by have:=(hC.low G h0).2;omega
           have hGl:=(Array.getElem?_eq_some_iff.1 qG).1
           rw [←hG]
           have hF6:=hF.trans (Fr.of_below ow' hb6)
           have hC6:=hC.below hb6
           have qR:=(hb6.block _ hl.1).trans hI.qR
           have hlR:=hl.1
           have hz6:=hb6.size
           have HNZ:Hid (S''.e≠0):=hid he
           clear hW6 hG hC hF hI hb6 g5 g6 g7 g8 he
           go_upto_region 22 with fail
           go_loopw [115] (fun i wr=>∃ k:Nat,k≤4∧i=.int .i64 k∧∃ (s':SumS) (ow'':Nat→Nat),Hid (s'=clr S'' k)∧CAt B T (c.with s') ow'' wr∧Fr ow' ow'' w6 wr) (fun i _=>4-(intOf i).toNat)
           case atStart=>exact ⟨0,by omega,rfl,S'',ow',hid (clr0 S'').symm,hC6,Fr.refl _ _⟩
           case round =>
            obtain ⟨k,hk,rfl,s',ow'',HCL,hC,hF⟩:=hrel
            have qG:=(hF.block G hGl zG).trans qG
            obtain ⟨i0,i1,i2,i3,-,-,-,-⟩:=row4 qG
            have hGw:=(Array.getElem?_eq_some_iff.1 qG).1
            have hkk:k=0∨k=1∨k=2∨k=3∨k=4:=by omega
            rcases hkk with rfl|rfl|rfl|rfl|rfl
            ·as_aux_lemma =>
              go_wp2_with (refine wpList_invoke _ rfl (.tmp 119) "Clear" rfl 105 (.pointer (some ⟨c.t1,0,none⟩)) 320 (.tuple #[]) rfl (clearV _ _) (entV _ _) ((clear1 hC).mono ?_);rintro e w7 ⟨rfl,ow3,hC3,hF3⟩;refine ⟨rfl,?_⟩;try simp only [Act.put,qA,qB,qC])
              go_roundw
              case rel=>first|exact ⟨1,by omega,rfl,({ s' with i1:=[] }:SumS),ow3,hid (by rw [HCL.out];exact clr1 S''),hC3,hF.trans hF3⟩|((repeat apply Exists.intro);exact ⟨⟨1,by omega,rfl,({ s' with i1:=[] }:SumS),ow3,hid (by rw [HCL.out];exact clr1 S''),hC3,hF.trans hF3⟩,rfl⟩)
              case measure=>simp [intOf]
            ·as_aux_lemma =>
              go_wp2_with (refine wpList_invoke _ rfl (.tmp 119) "Clear" rfl 105 (.pointer (some ⟨c.t2,0,none⟩)) 320 (.tuple #[]) rfl (clearV _ _) (entV _ _) ((clear2 hC).mono ?_);rintro e w7 ⟨rfl,ow3,hC3,hF3⟩;refine ⟨rfl,?_⟩;try simp only [Act.put,qA,qB,qC])
              go_roundw
              case rel=>first|exact ⟨2,by omega,rfl,({ s' with i2:=[] }:SumS),ow3,hid (by rw [HCL.out];exact clr2 S''),hC3,hF.trans hF3⟩|((repeat apply Exists.intro);exact ⟨⟨2,by omega,rfl,({ s' with i2:=[] }:SumS),ow3,hid (by rw [HCL.out];exact clr2 S''),hC3,hF.trans hF3⟩,rfl⟩)
              case measure=>simp [intOf]
            ·as_aux_lemma =>
              go_wp2_with (refine wpList_invoke _ rfl (.tmp 119) "Clear" rfl 105 (.pointer (some ⟨c.t3,0,none⟩)) 320 (.tuple #[]) rfl (clearV _ _) (entV _ _) ((clear3 hC).mono ?_);rintro e w7 ⟨rfl,ow3,hC3,hF3⟩;refine ⟨rfl,?_⟩;try simp only [Act.put,qA,qB,qC])
              go_roundw
              case rel=>first|exact ⟨3,by omega,rfl,({ s' with i3:=[] }:SumS),ow3,hid (by rw [HCL.out];exact clr3 S''),hC3,hF.trans hF3⟩|((repeat apply Exists.intro);exact ⟨⟨3,by omega,rfl,({ s' with i3:=[] }:SumS),ow3,hid (by rw [HCL.out];exact clr3 S''),hC3,hF.trans hF3⟩,rfl⟩)
              case measure=>simp [intOf]
            ·as_aux_lemma =>
              go_wp2_with (refine wpList_invoke _ rfl (.tmp 119) "Clear" rfl 107 (.pointer (some ⟨c.t4,0,none⟩)) 321 (.tuple #[]) rfl (clearQ _ _) (entQ _ _) ((clear4 hC).mono ?_);rintro e w7 ⟨rfl,ow3,hC3,hF3⟩;refine ⟨rfl,?_⟩;try simp only [Act.put,qA,qB,qC])
              go_roundw
              case rel=>first|exact ⟨4,by omega,rfl,({ s' with i4:=[] }:SumS),ow3,hid (by rw [HCL.out];exact clr4 S''),hC3,hF.trans hF3⟩|((repeat apply Exists.intro);exact ⟨⟨4,by omega,rfl,({ s' with i4:=[] }:SumS),ow3,hid (by rw [HCL.out];exact clr4 S''),hC3,hF.trans hF3⟩,rfl⟩)
              case measure=>simp [intOf]
            ·as_aux_lemma =>
              have qR:=(hF.block R (Nat.lt_of_lt_of_le hlR hz6) zR).trans qR
              obtain ⟨r0,-,-,-,-,-,-,-⟩:=row8 qR
              have hTl:=hC.lt.2
              obtain ⟨-,-,-,g3,-,-,-,-,-⟩:=row9 hC.box
              have fT:wr.frozen? ⟨T,3,none⟩=false:=by simp [World.frozen?,hC.box]
              have hn:=hC.nums r hr
              have hfin:=hC.hor r.num ⟨by omega,hn.2⟩
              have hsum:c.sum r = { (c.with s') with horizon:=r.num }:=by unfold CL.sum;rw [HSU.out,HCL.out];exact if_neg HNZ.out
              have HF:=hid (show ∃ ow',CAt B T (c.sum r) ow' (wr.setCell ⟨T,3,none⟩ (.int .i64 r.num))∧Fr ow ow' w (wr.setCell ⟨T,3,none⟩ (.int .i64 r.num)) from ⟨ow'',by rw [hsum];exact hfin.1,(hF6.trans hF).trans hfin.2⟩)
              clear hfin hsum hn hC hF qG qR
              go_wp2_with fail
              go_end0
              exact ⟨rfl,HF.out⟩

end Go.Proofs.YtdeeoddacnealaaGreat.C