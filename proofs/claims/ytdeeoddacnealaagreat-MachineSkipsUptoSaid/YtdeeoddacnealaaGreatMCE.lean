/- Several texts as one: CE S4 CF CG. -/
import Derived.Test.YtdeeoddacnealaaGreatMCA
import Derived.Test.YtdeeoddacnealaaGreatMNK
import Derived.Deep.CutRange
import Derived.Test.YtdeeoddacnealaaGreatMS
set_option linter.unusedVariables false
set_option linter.unusedSimpArgs false
namespace Go.Proofs.YtdeeoddacnealaaGreat.C
open Go.RowKit Fl

def lkV (l:LookV):Value:=.agg #[.bool l.written,.bool l.out,.int .i64 l.least,.int .i64 l.most]
theorem row6 {w:World} {b:Nat} {x0 x1 x2 x3 x4 x5:Value} {T:TypeId} (h:w.heap[b]? = some (.cells #[x0,x1,x2,x3,x4,x5] T (0,0))) :
  w.cell? ⟨b,0,none⟩=some x0∧w.cell? ⟨b,1,none⟩=some x1∧w.cell? ⟨b,2,none⟩=some x2∧w.cell? ⟨b,3,none⟩=some x3∧w.cell? ⟨b,4,none⟩=some x4∧w.cell? ⟨b,5,none⟩=some x5 :=
 ⟨cell_row h 0,cell_row h 1,cell_row h 2,cell_row h 3,cell_row h 4,cell_row h 5⟩
theorem row4 {w:World} {b:Nat} {x0 x1 x2 x3:Value} {T:TypeId} (h:w.heap[b]? = some (.cells #[x0,x1,x2,x3] T (0,0))) :
  w.cell? ⟨b,0,none⟩=some x0∧w.cell? ⟨b,1,none⟩=some x1∧w.cell? ⟨b,2,none⟩=some x2∧w.cell? ⟨b,3,none⟩=some x3∧w.frozen? ⟨b,0,none⟩=false∧w.frozen? ⟨b,1,none⟩=false∧w.frozen? ⟨b,2,none⟩=false∧w.frozen? ⟨b,3,none⟩=false :=
 ⟨cell_row h 0,cell_row h 1,cell_row h 2,cell_row h 3,by simp [World.frozen?,h],by simp [World.frozen?,h],by simp [World.frozen?,h],by simp [World.frozen?,h]⟩
theorem row9 {w:World} {b:Nat} {c:CL} {T:TypeId} (h:w.heap[b]? = some (.cells c.box T (0,0))) :
  w.cell? ⟨b,0,none⟩=some (.int .i64 c.keep)∧w.cell? ⟨b,1,none⟩=some (.int .i64 c.old)∧w.cell? ⟨b,2,none⟩=some (.int .i64 c.count)∧w.cell? ⟨b,3,none⟩=some (.int .i64 c.horizon)∧w.cell? ⟨b,4,none⟩=some (.slice c.ra c.recs.length c.rc) ∧
  w.cell? ⟨b,5,none⟩=some (.pointer (some ⟨c.t1,0,none⟩))∧w.cell? ⟨b,6,none⟩=some (.pointer (some ⟨c.t2,0,none⟩))∧w.cell? ⟨b,7,none⟩=some (.pointer (some ⟨c.t3,0,none⟩))∧w.cell? ⟨b,8,none⟩=some (.pointer (some ⟨c.t4,0,none⟩)) :=
 ⟨cell_row h 0,cell_row h 1,cell_row h 2,cell_row h 3,cell_row h 4,cell_row h 5,cell_row h 6,cell_row h 7,cell_row h 8⟩
theorem two_alloc (w:World) (x y:Obj):((w.alloc x).alloc y).heap[w.heap.size]? = some x∧((w.alloc x).alloc y).heap[w.heap.size+1]? = some y:=by
 have h1:=heap_alloc_new w x
 have h2:=heap_alloc_new (w.alloc x) y
 have hb:Below (w.heap.size+1) (w.alloc x) ((w.alloc x).alloc y):=(Below.refl _ _).alloc (by simp) _
 exact ⟨(hb.block _ (by omega)).trans h1,by simpa using h2⟩
theorem grown_below {B p:Nat} {w w':World} (h:w.grownBy w' (some p)) (hp:B≤p) (hB:B≤w.heap.size):Below B w w' :=
 ⟨h.os,h.tape,h.output,h.size,fun k hk=>h.block k (by omega) fun e=>by have:=Option.some.inj e;omega⟩

theorem mx3 (m a b:Int):(if (if m<a then a else m)<b then b else if m<a then a else m)=max (max m a) b:=by
 rw [Int.max_def,Int.max_def]
 repeat' split
 all_goals omega

set_option maxHeartbeats 4000000 in
set_option maxRecDepth 100000 in
theorem summary_any {B T:Nat} {c:CL} {ow:Nat→Nat} {w:World} (h:CAt B T c ow w) (x:SubV) (hx:x.At w) (hs:0≤x.s2∧x.s2≤1099511627776) :
  Calls Tryz.prog 113 #[.pointer (some ⟨T,0,none⟩),.agg #[.int .i64 x.s0,.int .i64 x.s1,.int .i64 x.s2,.slice x.ra x.rs.length x.rc,.slice x.sa x.ss.length x.sc,.slice x.wa x.ws.length x.wc]] w (Ret (lkV (sumL c x)) w):=by
 have H1:=hid fun W (hb:Below w.heap.size w W)=>over_any (h.k1.below hb) x (hx.below hb)
 have H2:=hid fun W (hb:Below w.heap.size w W)=>over_any (h.k2.below hb) x (hx.below hb)
 have HA1:=hid fun W (hb:Below w.heap.size w W) kb hk=>at_ (h.k1.below hb) kb hk
 have HA3:=hid fun W (hb:Below w.heap.size w W) kb hk=>at_ (h.k3.below hb) kb hk
 have HA4:=hid fun W (hb:Below w.heap.size w W) kb hk=>atq_ (h.k4.below hb) kb hk
 have HW:=hid (fat_get hx.w)
 have hT:=h.lt.2
 have hm3:=hx.w.len
 unfold maxLen at hm3
 obtain ⟨-,-,-,-,-,t5,t6,t7,t8⟩:=row9 h.box
 obtain ⟨V,hV⟩:∃ V,sumL c x=V:=⟨_,rfl⟩
 rw [hV]
 have HV:=hid hV
 unfold sumL at HV
 clear h hx hV
 generalize overD c.i1 x=o1 at *
 generalize overD c.i2 x=o2 at *
 go_enter Tryz.func113,Tryz.ntmps113
 go_upto_region 1 with fail
 generalize hW1:World.alloc _ _=w1
 have hA:Below w.heap.size w w1:=by rw [←hW1];exact below_auto
 have hz1:w.heap.size+1<w1.heap.size:=by rw [←hW1];simp
 have q0:w1.heap[w.heap.size]? = some (.cells #[.int .i64 x.s0,.int .i64 x.s1,.int .i64 x.s2,.slice x.ra x.rs.length x.rc,.slice x.sa x.ss.length x.sc,.slice x.wa x.ws.length x.wc] 41 (0,0)):=by rw [←hW1];exact (two_alloc w _ _).1
 have q1:w1.heap[w.heap.size+1]? = some (.cells #[.bool false,.bool false,.int .i64 0,.int .i64 0] 118 (0,0)):=by rw [←hW1];exact (two_alloc w _ _).2
 clear hW1
 have hK:∀ X:Ext w1,Below w.heap.size w X.w:=fun X=>hA.trans (X.b.mono (by omega))
 obtain ⟨b0,b1,b2,b3,b4,b5⟩:=row6 q0
 have e5:=(hA.cell (p:=⟨T,5,none⟩) hT).trans t5
 have hT1:T<w1.heap.size:=by omega
 have hz0:w.heap.size<w1.heap.size:=by omega
 (refine wp_region_ext (by kernel_rfl) (by kernel_rfl) ?_;(repeat (go_big_quiet_step (first|(go_at_call 187;with_reducible exact Calls.ext_of (H1.out _ (hK _))))));refine mX ?_;intro w2 hb2 hc2 hf2 hz2;intros)
 have q0:=(hb2.block _ (by omega)).trans q0
 have q1:=(hb2.block _ hz1).trans q1
 have hA2:=hA.trans (hb2.mono (by omega))
 have hz2:w.heap.size+1<w2.heap.size:=by omega
 clear hc2 hf2 hb2 b0 b1 b2 b3 b4 b5 e5 hT1 hK hA hz1 hz0
 go_upto_if 15 with fail
 go_cut [15] from 15 to 19 (fun _ wc=>∃ l2:Int,Hid (l2=if x.s2<o1 then x.s2+1 else 0)∧Below w.heap.size w wc∧w.heap.size+1<wc.heap.size∧wc.heap[w.heap.size]? = some (.cells #[.int .i64 x.s0,.int .i64 x.s1,.int .i64 x.s2,.slice x.ra x.rs.length x.rc,.slice x.sa x.ss.length x.sc,.slice x.wa x.ws.length x.wc] 41 (0,0))∧wc.heap[w.heap.size+1]? = some (.cells #[.bool false,.bool false,.int .i64 l2,.int .i64 0] 118 (0,0)))
 case first =>
  obtain ⟨b0,b1,b2,b3,b4,b5⟩:=row6 q0
  obtain ⟨l0,l1,l2,l3,f0,f1,f2,f3⟩:=row4 q1
  have hz0:w.heap.size<w2.heap.size:=by omega
  by_cases hlt:x.s2<o1
  ·go_wp2_with fail
   go_meet
   obtain ⟨r1,g1⟩:=K.set1 (i:=2) q1 (.int .i64 (x.s2+1))
   case rel=>exact ⟨x.s2+1,hid (if_pos hlt).symm,hA2.trans (grown_below g1 (by omega) (by omega)),by simpa using hz2,(g1.block _ hz0 (by intro e;have:=Option.some.inj e;omega)).trans q0,r1⟩
  ·go_wp2_with fail
   go_meet
   case rel=>exact ⟨0,hid (if_neg (by omega)).symm,hA2,hz2,q0,q1⟩
 case rest =>
  obtain ⟨l2,HL2,hbc,hzc,r0,r1⟩:=hcut
  clear hA2 q0 q1 hz2
  obtain ⟨b0,b1,b2,b3,b4,b5⟩:=row6 r0
  obtain ⟨l0,l1,l2',l3,f0,f1,f2,f3⟩:=row4 r1
  have e6:=(hbc.cell (p:=⟨T,6,none⟩) hT).trans t6
  have hz0:w.heap.size<wc.heap.size:=by omega
  have hTc:T<wc.heap.size:=by omega
  have hK:∀ X:Ext wc,Below w.heap.size w X.w:=fun X=>hbc.trans (X.b.mono (by omega))
  go_upto_region 3 with fail
  (refine wp_region_ext_tail 10 (by kernel_rfl) (by kernel_rfl) (by kernel_rfl) ?_;simp only [List.take_succ_cons,List.take_zero,List.drop_succ_cons,List.drop_zero];(repeat (go_big_quiet_step (first|(go_at_call 187;with_reducible exact Calls.ext_of (H2.out _ (hK _))))));refine mX ?_;intro w3 hb3 hc3 hf3 hz3;intros)
  go_upto_region 4 with fail
  have r0:=(hb3.block _ hz0).trans r0
  have r1:=(hb3.block _ hzc).trans r1
  obtain ⟨r2,g2⟩:=K.set1 (i:=1) r1 (.bool (decide (x.s2<o2)))
  have r0:=(g2.block _ (by omega) (by intro e;have:=Option.some.inj e;omega)).trans r0
  have hA4:=(hbc.trans (hb3.mono (by omega))).trans (grown_below g2 (by omega) (by omega))
  have hz4:w.heap.size+1<(w3.setCell ⟨w.heap.size+1,1,none⟩ (.bool (decide (x.s2<o2)))).heap.size:=by simp;omega
  generalize w3.setCell ⟨w.heap.size+1,1,none⟩ (.bool (decide (x.s2<o2)))=w4 at *
  clear g2 r1 hb3 hc3 hf3 b0 b1 b2 b3 b4 b5 l0 l1 l2' l3 f0 f1 f2 f3 e6 hK hbc
  have r1:w4.heap[w.heap.size+1]? = some (.cells #[.bool false,.bool (decide (x.s2<o2)),.int .i64 l2,.int .i64 0] 118 (0,0)):=by simpa using r2
  obtain ⟨b0,b1,b2,b3,b4,b5⟩:=row6 r0
  go_upto_region 5 with fail
  have hz5:w.heap.size+1<w4.heap.size:=hz4
  have e7:=fun W (hb:Below w.heap.size w W)=>(hb.cell (p:=⟨T,5,none⟩) hT).trans t5
  have e8:=fun W (hb:Below w.heap.size w W)=>(hb.cell (p:=⟨T,7,none⟩) hT).trans t7
  have e9:=fun W (hb:Below w.heap.size w W)=>(hb.cell (p:=⟨T,8,none⟩) hT).trans t8
  have E7:=hid e7;have E8:=hid e8;have E9:=hid e9
  have hTw:T<w.heap.size:=hT
  clear e7 e8 e9 t5 t6 t7 t8 H1 H2 hz0 hTc
  go_loopw [33] (fun i wr=>∃ k:Nat,k≤x.ws.length∧i=.int .i64 k∧Below w.heap.size w wr∧w.heap.size+1<wr.heap.size∧wr.heap[w.heap.size]? = some (.cells #[.int .i64 x.s0,.int .i64 x.s1,.int .i64 x.s2,.slice x.ra x.rs.length x.rc,.slice x.sa x.ss.length x.sc,.slice x.wa x.ws.length x.wc] 41 (0,0))∧wr.heap[w.heap.size+1]? = some (.cells #[.bool (lksW c.i1 c.i3 c.i4 x.s2 (x.ws.take k)).1,.bool (decide (x.s2<o2)),.int .i64 l2,.int .i64 (lksW c.i1 c.i3 c.i4 x.s2 (x.ws.take k)).2] 118 (0,0))) (fun i _=>x.ws.length-(intOf i).toNat)
  case atStart=>exact ⟨0,Nat.zero_le _,rfl,hA4,hz5,r0,r1⟩
  case round =>
   clear r0 r1 b0 b1 b2 b3 b4 b5
   obtain ⟨k,hk,rfl,hbw,hz,q0,q1⟩:=hrel
   obtain ⟨b0,b1,b2,b3,b4,b5⟩:=row6 q0
   obtain ⟨l0,l1,l2',l3,f0,f1,f2,f3⟩:=row4 q1
   have hz0:w.heap.size<wr.heap.size:=by omega
   have hTr:T<wr.heap.size:=by omega
   by_cases hlt:k<x.ws.length
   ·obtain ⟨b,o,hwa,hb,c0,hl0⟩:=HW.out k hlt
    have hlt':(k:Int)<(x.ws.length:Int):=by omega
    have hkx:=hid (fl_some (xs:=x.ws) (k:=k) hlt)
    have d0:=(hbw.cell (p:=⟨b,_,none⟩) hb).trans c0
    have hbr:b<wr.heap.size:=by omega
    clear c0
    have hsn:=hid (lksW_snoc c.i1 c.i3 c.i4 x.s2 (x.ws.take k) (x.ws[k]?.getD 0))
    generalize x.ws[k]?.getD 0=key at *
    obtain ⟨L,hL⟩:∃ L,lksW c.i1 c.i3 c.i4 x.s2 (x.ws.take k)=L:=⟨_,rfl⟩
    rw [hL] at hsn l0 l3 q1
    clear hL
    obtain ⟨wt,m⟩:=L
    simp only at l0 l3 q1
    rw [hwa]
    go_upto_region 7 with fail
    go_cut [33] from 33 to 67 (fun t33 wc=>t33=.int .i64 k∧∃ wt':Bool,Hid (wt'=(wt||decide (x.s2<atI c.i1 key)))∧Below w.heap.size w wc∧w.heap.size+1<wc.heap.size∧wc.heap[w.heap.size]? = some (.cells #[.int .i64 x.s0,.int .i64 x.s1,.int .i64 x.s2,.slice x.ra x.rs.length x.rc,.slice x.sa x.ss.length x.sc,.slice x.wa x.ws.length x.wc] 41 (0,0))∧wc.heap[w.heap.size+1]? = some (.cells #[.bool wt',.bool (decide (x.s2<o2)),.int .i64 l2,.int .i64 m] 118 (0,0)))
    case first =>
     have hK:∀ X:Ext wr,Below w.heap.size w X.w:=fun X=>hbw.trans (X.b.mono (by omega))
     have e5:=E7.out wr hbw
     have fin:∀ (w5:World) (v:Bool),Below wr.heap.size wr w5→v=(wt||decide (x.s2<atI c.i1 key))→∃ wt':Bool,Hid (wt'=(wt||decide (x.s2<atI c.i1 key)))∧Below w.heap.size w (w5.setCell ⟨w.heap.size+1,0,none⟩ (.bool v))∧w.heap.size+1<(w5.setCell ⟨w.heap.size+1,0,none⟩ (.bool v)).heap.size∧(w5.setCell ⟨w.heap.size+1,0,none⟩ (.bool v)).heap[w.heap.size]? = some (.cells #[.int .i64 x.s0,.int .i64 x.s1,.int .i64 x.s2,.slice x.ra x.rs.length x.rc,.slice x.sa x.ss.length x.sc,.slice x.wa x.ws.length x.wc] 41 (0,0))∧(w5.setCell ⟨w.heap.size+1,0,none⟩ (.bool v)).heap[w.heap.size+1]? = some (.cells #[.bool wt',.bool (decide (x.s2<o2)),.int .i64 l2,.int .i64 m] 118 (0,0)):=fun w5 v hb hv=>by
      have hs5:=hb.size
      obtain ⟨r2,g2⟩:=K.set1 (i:=0) ((hb.block _ hz).trans q1) (.bool v)
      exact ⟨v,hid hv,(hbw.trans (hb.mono (by omega))).trans (grown_below g2 (by omega) (by omega)),by simp;omega,(g2.block _ (by omega) (by intro e;have:=Option.some.inj e;omega)).trans ((hb.block _ hz0).trans q0),r2⟩
     have FIN:=hid fin
     clear fin q0 q1
     cases wt
     ·(refine wp_region_ext_tail 14 (by kernel_rfl) (by kernel_rfl) (by kernel_rfl) ?_;simp only [List.take_succ_cons,List.take_zero,List.drop_succ_cons,List.drop_zero];(repeat (go_big_quiet_step (first|(go_at_call 188;with_reducible exact Calls.ext_of (HA1.out _ (hK _) key hl0)))));refine mX ?_;intro w5 hb5 hc5 hf5 hz5;intros;(try have hu5_wr_0:wr.heap.size<w5.heap.size:=by omega);(try have hu5_wr_1:wr.heap.size+1<w5.heap.size:=by omega))
      go_wp2_with fail
      go_meet
      case rel=>exact ⟨rfl,FIN.out w5 _ hb5 (by simp)⟩
     ·(refine wp_region_ext_tail 14 (by kernel_rfl) (by kernel_rfl) (by kernel_rfl) ?_;simp only [List.take_succ_cons,List.take_zero,List.drop_succ_cons,List.drop_zero];(repeat (go_big_quiet_step (first|fail)));refine mX ?_;intro w5 hb5 hc5 hf5 hz5;intros;(try have hu5_wr_0:wr.heap.size<w5.heap.size:=by omega);(try have hu5_wr_1:wr.heap.size+1<w5.heap.size:=by omega))
      go_wp2_with fail
      go_meet
      case rel=>exact ⟨rfl,FIN.out w5 _ hb5 (by simp)⟩
    case rest =>
     clear q0 q1 b0 b1 b2 b3 b4 b5 l0 l1 l2' l3 f0 f1 f2 f3 d0 hbw hz hz0
     obtain ⟨rfl,wt',HWT,hbc,hzc,q0,q1⟩:=hcut
     obtain ⟨b0,b1,b2,b3,b4,b5⟩:=row6 q0
     obtain ⟨l0,l1,l2',l3,f0,f1,f2,f3⟩:=row4 q1
     have hz0:w.heap.size<wc.heap.size:=by omega
     have hTc:T<wc.heap.size:=by omega
     have hK:∀ X:Ext wc,Below w.heap.size w X.w:=fun X=>hbc.trans (X.b.mono (by omega))
     have e7:=E8.out wc hbc
     have e8:=E9.out wc hbc
     have fin:∀ (w6:World) (v:Int),Below wc.heap.size wc w6→v=max (max m (atI c.i3 key)) (Q.atI c.i4 key)→∃ k':Nat,k'≤x.ws.length∧Value.int .i64 ((k:Int)+1)=.int .i64 k'∧Below w.heap.size w (w6.setCell ⟨w.heap.size+1,3,none⟩ (.int .i64 v))∧w.heap.size+1<(w6.setCell ⟨w.heap.size+1,3,none⟩ (.int .i64 v)).heap.size∧(w6.setCell ⟨w.heap.size+1,3,none⟩ (.int .i64 v)).heap[w.heap.size]? = some (.cells #[.int .i64 x.s0,.int .i64 x.s1,.int .i64 x.s2,.slice x.ra x.rs.length x.rc,.slice x.sa x.ss.length x.sc,.slice x.wa x.ws.length x.wc] 41 (0,0))∧(w6.setCell ⟨w.heap.size+1,3,none⟩ (.int .i64 v)).heap[w.heap.size+1]? = some (.cells #[.bool (lksW c.i1 c.i3 c.i4 x.s2 (x.ws.take k')).1,.bool (decide (x.s2<o2)),.int .i64 l2,.int .i64 (lksW c.i1 c.i3 c.i4 x.s2 (x.ws.take k')).2] 118 (0,0)):=fun w6 v hb hv=>by
      have hs6:=hb.size
      obtain ⟨r2,g2⟩:=K.set1 (i:=3) ((hb.block _ hzc).trans q1) (.int .i64 v)
      refine ⟨k+1,by omega,by go_num,(hbc.trans (hb.mono (by omega))).trans (grown_below g2 (by omega) (by omega)),by simp;omega,(g2.block _ (by omega) (by intro e;have:=Option.some.inj e;omega)).trans ((hb.block _ hz0).trans q0),?_⟩
      rw [r2,List.take_add_one,hkx.out,Option.toList_some,hsn.out,hv,HWT.out]
      rfl
     have FIN:=hid fin
     clear fin q0 q1
     go_upto_region 8 with fail
     (refine wp_region_ext_tail 16 (by kernel_rfl) (by kernel_rfl) (by kernel_rfl) ?_;simp only [List.take_succ_cons,List.take_zero,List.drop_succ_cons,List.drop_zero];(repeat (go_big_quiet_step (first|(go_at_call 188;with_reducible exact Calls.ext_of (HA3.out _ (hK _) key hl0))|(go_at_call 189;with_reducible exact Calls.ext_of (HA4.out _ (hK _) key hl0)))));refine mX ?_;intro w6 hb6 hc6 hf6 hz6;intros;(try have hu6_wc_0:wc.heap.size<w6.heap.size:=by omega);(try have hu6_wc_1:wc.heap.size+1<w6.heap.size:=by omega))
     go_wp2_with fail
     go_roundw
     case rel=>exact (by rw [←hwa];exact FIN.out w6 _ hb6 (mx3 _ _ _))
     case measure=>simp [intOf];omega
   ·obtain rfl:k=x.ws.length:=by omega
    rw [List.take_of_length_le (Nat.le_refl _)] at l0 l3 q1
    have HQ:=hid q1
    generalize lksW c.i1 c.i3 c.i4 x.s2 x.ws=L at *
    obtain ⟨wt,m⟩:=L
    simp only at *
    by_cases hm:m≤x.s2
    ·go_wp2_with fail
     exact bodyPost_ret (v:=.agg #[.bool wt,.bool (decide (x.s2<o2)),.int .i64 l2,.int .i64 0]) (by simp [results,Tryz.results113,go_sem, *]) rfl ⟨by rw [←HV.out,HL2.out];simp [lkV,hm],by exact below_auto⟩
    ·go_wp2_with fail
     exact bodyPost_ret (v:=.agg #[.bool wt,.bool (decide (x.s2<o2)),.int .i64 l2,.int .i64 m]) (by simp [results,Tryz.results113,go_sem, *]) rfl ⟨by rw [←HV.out,HL2.out];simp [lkV];omega,by exact below_auto⟩
end Go.Proofs.YtdeeoddacnealaaGreat.C
namespace Go.Proofs.YtdeeoddacnealaaGreat
open Go.RowKit Fl

theorem size2 (w:World) (a b:Obj):w.heap.size<((w.alloc a).alloc b).heap.size:=by simp;omega
theorem subMeets_any (x y:SubV) (w:World) (hx:x.At w) (hy:y.At w) :
  Calls Tryz.prog 116 #[.agg #[.int .i64 x.s0,.int .i64 x.s1,.int .i64 x.s2,.slice x.ra x.rs.length x.rc,.slice x.sa x.ss.length x.sc,.slice x.wa x.ws.length x.wc],.agg #[.int .i64 y.s0,.int .i64 y.s1,.int .i64 y.s2,.slice y.ra y.rs.length y.rc,.slice y.sa y.ss.length y.sc,.slice y.wa y.ws.length y.wc]] w (Ret (.bool (x.meets y)) w):=by
 have H:=fun W (hb:Below w.heap.size w W) hB=>slContainsFuncF_any x y.wa y.wc w.heap.size y.ws y.ws.length W rfl (hy.w.below hb) (hx.below hb) hB
 unfold SubV.meets
 generalize (y.ws.any fun k=>x.reads k)=v at *
 generalize x.rs.length=n1 at *
 generalize x.ss.length=n2 at *
 generalize x.ws.length=n3 at *
 generalize y.rs.length=n4 at *
 generalize y.ss.length=n5 at *
 generalize y.ws.length=n6 at *
 go_enter Tryz.func116,Tryz.ntmps116
 go_wp2_with (go_at_call 105;with_reducible refine mQ (H _ (by exact below_auto) (size2 _ _ _) (by go_simp) (by go_simp) (by go_simp) (by go_simp) (by go_simp) (by go_simp)) ?_;intro w1 hb1 hc1 hf1 hz1;intros)
 go_ret
 exact ⟨rfl,by exact below_auto⟩

end Go.Proofs.YtdeeoddacnealaaGreat
namespace Go.Proofs.YtdeeoddacnealaaGreat.C
open Go.RowKit Fl

theorem bes1_any (x:SubV) (key B:Nat) (w:World) (h:x.At w) (hB:B<w.heap.size)
  (h0:w.cell? ⟨B,1,none⟩=some (.int .i64 x.s0)) (h1:w.cell? ⟨B,2,none⟩=some (.int .i64 x.s1)) (h2:w.cell? ⟨B,3,none⟩=some (.int .i64 x.s2))
  (h3:w.cell? ⟨B,4,none⟩=some (.slice x.ra x.rs.length x.rc)) (h4:w.cell? ⟨B,5,none⟩=some (.slice x.sa x.ss.length x.sc)) (h5:w.cell? ⟨B,6,none⟩=some (.slice x.wa x.ws.length x.wc)) :
  Calls Tryz.prog 114 #[.float .f64 key,.pointer (some ⟨B,0,none⟩)] w (Ret (.bool (x.writes key)) w):=by
 have H:=subWrites_any x key w h
 generalize x.writes key=v at *
 obtain ⟨s0,s1,s2,ra,rc,rs,sa,sc,ss,wa,wc,ws⟩:=x
 simp only at *
 clear h
 generalize rs.length=n1 at *
 generalize ss.length=n2 at *
 generalize ws.length=n3 at *
 go_enter Tryz.func114,Tryz.ntmps114
 go_wp2_with (go_at_call 115;with_reducible refine mQ (H) ?_;intro w1 hb1 hc1 hf1 hz1;intros)
 go_ret
 exact ⟨rfl,by exact below_auto⟩

theorem slIndexFuncB_any (x:SubV) (a:Option Addr) (c B:Nat) (xs:List Nat) (n:Nat) (w:World) (hn:xs.length=n) (h:FAt w a xs) (hx:x.At w) (hB:B<w.heap.size)
  (h0:w.cell? ⟨B,1,none⟩=some (.int .i64 x.s0)) (h1:w.cell? ⟨B,2,none⟩=some (.int .i64 x.s1)) (h2:w.cell? ⟨B,3,none⟩=some (.int .i64 x.s2))
  (h3:w.cell? ⟨B,4,none⟩=some (.slice x.ra x.rs.length x.rc)) (h4:w.cell? ⟨B,5,none⟩=some (.slice x.sa x.ss.length x.sc)) (h5:w.cell? ⟨B,6,none⟩=some (.slice x.wa x.ws.length x.wc)) :
  Calls Tryz.prog 179 #[.slice a n c,.func (.func 114) #[] #[.pointer (some ⟨B,0,none⟩)]] w (Ret (.int .i64 (idxB (fun k=>x.writes k) xs)) w):=by
 have HM:∀ (W:World) (key:Nat),Below w.heap.size w W→Calls Tryz.prog 114 #[.float .f64 key,.pointer (some ⟨B,0,none⟩)] W (Ret (.bool (x.writes key)) W):=fun W key hb =>
  bes1_any x key B W (hx.below hb) (Nat.lt_of_lt_of_le hB hb.size) ((hb.cell (p:=⟨B,1,none⟩) hB).trans h0) ((hb.cell (p:=⟨B,2,none⟩) hB).trans h1) ((hb.cell (p:=⟨B,3,none⟩) hB).trans h2) ((hb.cell (p:=⟨B,4,none⟩) hB).trans h3) ((hb.cell (p:=⟨B,5,none⟩) hB).trans h4) ((hb.cell (p:=⟨B,6,none⟩) hB).trans h5)
 obtain ⟨hr,hl,hm⟩:=h
 unfold maxLen at hm
 clear h0 h1 h2 h3 h4 h5 hl
 rcases hr with rfl|⟨b,o,rfl,hb,hc⟩
 ·simp only [List.length_nil] at hn
  subst hn
  have e:idxB (fun k:Nat=>x.writes k) [] = -1:=rfl
  rw [e]
  clear e
  go_enter Tryz.func179,Tryz.ntmps179
  go_wp2
  go_loop [8] (fun i=>i=.int .i64 0) (fun _=>0)
  case atStart=>rfl
  case round =>
   subst hrel
   go_wp2
   go_ret
   exact ⟨rfl,Below.refl _ _⟩
 ·have HC:=hid hc;have HN:=hid hn
  rw [hn] at hm
  clear hc hn
  go_enter Tryz.func179,Tryz.ntmps179
  go_wp2
  go_loopw [8] (fun i wr=>∃ k:Nat,k≤n∧i=.int .i64 k∧Hid (∀ j:Nat,j<k→∀ y,xs[j]? = some y→x.writes y=false)∧Below w.heap.size w wr) (fun i _=>n-(intOf i).toNat)
  case atStart=>exact ⟨0,Nat.zero_le _,rfl,hid fun j hj=>absurd hj (Nat.not_lt_zero _),Below.refl _ _⟩
  case round =>
   obtain ⟨k,hk,rfl,HR,hbw⟩:=hrel
   by_cases hlt:k<n
   ·have c0:=HC.out k (by rw [HN.out];exact hlt)
    have hlt':(k:Int)<(n:Int):=by omega
    have hsz:=hbw.size
    have hkx:=hid (fl_some (xs:=xs) (k:=k) (by rw [HN.out];exact hlt))
    have d0:=(hbw.cell (p:=⟨b,_,none⟩) hb).trans c0
    clear c0
    generalize hs:xs[k]?.getD 0=s at *
    have HS:=hid hs
    clear hs
    have H:=HM wr s hbw
    cases hp:x.writes s
    ·rw [hp] at H
     have HP:=hid hp
     clear hp
     go_wp2_with (go_at_call 114;with_reducible refine mQ (H) ?_;intro w1 hb1 hc1 hf1 hz1;intros)
     go_roundw
     case rel=>exact ⟨k+1,by omega,by go_num,hid fun j hj y hy=>by
       by_cases h:j<k
       ·exact HR.out j h y hy
       ·obtain rfl:j=k:=by omega
        rw [hkx.out] at hy;cases hy;exact HP.out,by exact below_auto⟩
     case measure=>simp [intOf];omega
    ·rw [hp] at H
     have HP:=hid hp
     clear hp
     go_wp2_with (go_at_call 114;with_reducible refine mQ (H) ?_;intro w1 hb1 hc1 hf1 hz1;intros)
     go_ret
     exact ⟨ret_int (by rw [idxB_some (p:=fun k=>x.writes k) hkx.out HP.out HR.out]),by exact below_auto⟩
   ·obtain rfl:k=n:=by omega
    go_wp2
    go_ret
    refine ⟨ret_int ?_,by exact below_auto⟩
    rw [idxB_none]
    intro i y hy
    refine HR.out i ?_ y hy
    have:=(List.getElem?_eq_some_iff.1 hy).1
    have:=HN.out
    omega

theorem slContainsFuncB_any (x:SubV) (a:Option Addr) (c B:Nat) (xs:List Nat) (n:Nat) (w:World) (hn:xs.length=n) (h:FAt w a xs) (hx:x.At w) (hB:B<w.heap.size)
  (h0:w.cell? ⟨B,1,none⟩=some (.int .i64 x.s0)) (h1:w.cell? ⟨B,2,none⟩=some (.int .i64 x.s1)) (h2:w.cell? ⟨B,3,none⟩=some (.int .i64 x.s2))
  (h3:w.cell? ⟨B,4,none⟩=some (.slice x.ra x.rs.length x.rc)) (h4:w.cell? ⟨B,5,none⟩=some (.slice x.sa x.ss.length x.sc)) (h5:w.cell? ⟨B,6,none⟩=some (.slice x.wa x.ws.length x.wc)) :
  Calls Tryz.prog 105 #[.slice a n c,.func (.func 114) #[] #[.pointer (some ⟨B,0,none⟩)]] w (Ret (.bool (xs.any fun k=>x.writes k)) w):=by
 have H:=slIndexFuncB_any x a c B xs n w hn h hx hB h0 h1 h2 h3 h4 h5
 rw [←idxB_any]
 generalize idxB (fun k:Nat=>x.writes k) xs=r at *
 clear h0 h1 h2 h3 h4 h5 hn
 go_enter Tryz.func105,Tryz.ntmps105
 go_wp2_with (go_at_call 179;with_reducible refine mQ (H) ?_;intro w1 hb1 hc1 hf1 hz1;intros)
 go_ret
 exact ⟨rfl,by exact below_auto⟩

instance:Inhabited RecV:=⟨⟨0,⟨0,0,0,none,0,[],none,0,[],none,0,[]⟩,false⟩⟩
theorem rec_get {B:Nat} {w:World} {a:Option Addr} {cap:Nat} {rs:List RecV} (h:w.ownsRow B 122 8 (.slice a rs.length cap) rs.length (rCells rs)) (k:Nat) (hk:k<rs.length):∃ g,a=some ⟨g,0,none⟩∧g<w.heap.size∧∀ j v,(rs[k]?.getD default).cells[j]? = some v→w.cell? ⟨g,k * 8+j,none⟩=some v:=by
 rcases h.2 with ⟨h1,h2⟩|⟨g,cap',cur,h1,hbg,hg,h5⟩
 ·have:=rCells_len rs
  rw [h2] at this;simp at this;omega
 ·injection h1 with ha _ _
  subst ha
  refine ⟨g,rfl,(Array.getElem?_eq_some_iff.1 hg).1,fun j v hv=>?_⟩
  have hj:j<8:=by have:=(List.getElem?_eq_some_iff.1 hv).1;rwa [cells8] at this
  have h6:=flat_get cells8 (List.getElem?_eq_getElem hk) hj
  rw [List.getElem?_eq_getElem hk] at hv
  have:=h.cells (g:=g) rfl (k * 8+j) v (h6.trans hv)
  rwa [K.addr0] at this
theorem rec_some {rs:List RecV} {k:Nat} (h:k<rs.length):rs[k]? = some (rs[k]?.getD default):=by rw [List.getElem?_eq_getElem h];rfl
theorem row8 {w:World} {b:Nat} {x0 x1 x2 x3 x4 x5 x6 x7:Value} {T:TypeId} (h:w.heap[b]? = some (.cells #[x0,x1,x2,x3,x4,x5,x6,x7] T (0,0))) :
  w.cell? ⟨b,0,none⟩=some x0∧w.cell? ⟨b,1,none⟩=some x1∧w.cell? ⟨b,2,none⟩=some x2∧w.cell? ⟨b,3,none⟩=some x3∧w.cell? ⟨b,4,none⟩=some x4∧w.cell? ⟨b,5,none⟩=some x5∧w.cell? ⟨b,6,none⟩=some x6∧w.cell? ⟨b,7,none⟩=some x7 :=
 ⟨cell_row h 0,cell_row h 1,cell_row h 2,cell_row h 3,cell_row h 4,cell_row h 5,cell_row h 6,cell_row h 7⟩

structure BeI (w:World) (x:SubV) (L:Nat) (l:LookV) (wr:World):Prop where
 hb:Below w.heap.size w wr
 h1:w.heap.size+1<L
 h2:L<wr.heap.size
 q0:wr.heap[w.heap.size]? = some (.cells #[.int .i64 x.s0,.int .i64 x.s1,.int .i64 x.s2,.slice x.ra x.rs.length x.rc,.slice x.sa x.ss.length x.sc,.slice x.wa x.ws.length x.wc] 41 (0,0))
 q1:wr.heap[w.heap.size+1]? = some (.cells #[.bool false,.bool false,.int .i64 0,.int .i64 0] 118 (0,0))
 ql:wr.heap[L]? = some (.cells #[.bool l.written,.bool l.out,.int .i64 l.least,.int .i64 l.most] 118 (0,0))
theorem BeI.below {w wr w':World} {x:SubV} {L:Nat} {l:LookV} (h:BeI w x L l wr) (k:Below wr.heap.size wr w'):BeI w x L l w':=by
 have:=h.h1;have:=h.h2
 exact ⟨h.hb.trans (k.mono h.hb.size),h.h1,Nat.lt_of_lt_of_le h.h2 k.size,(k.block _ (by omega)).trans h.q0,(k.block _ (by omega)).trans h.q1,(k.block _ h.h2).trans h.ql⟩
theorem BeI.set {w wr:World} {x:SubV} {L:Nat} {l l':LookV} (h:BeI w x L l wr) (i:Nat) (v:Value) (hl:(#[.bool l.written,.bool l.out,.int .i64 l.least,.int .i64 l.most]:Array Value).setIfInBounds i v = #[.bool l'.written,.bool l'.out,.int .i64 l'.least,.int .i64 l'.most]) :
  BeI w x L l' (wr.setCell ⟨L,i,none⟩ v)∧∀ k,k<wr.heap.size→k≠L→(wr.setCell ⟨L,i,none⟩ v).heap[k]? = wr.heap[k]?:=by
 obtain ⟨r,g⟩:=K.set1 (i:=i) h.ql v
 have h1:=h.h1;have h2:=h.h2;have h3:=h.hb.size
 have hk:∀ k,k<wr.heap.size→k≠L→(wr.setCell ⟨L,i,none⟩ v).heap[k]? = wr.heap[k]?:=fun k hk hn=>g.block k hk fun e=>hn (Option.some.inj e)
 rw [hl] at r
 exact ⟨⟨h.hb.trans (grown_below g (by omega) h3),h1,Nat.lt_of_lt_of_le h2 g.size,(hk _ (by omega) (by omega)).trans h.q0,(hk _ (by omega) (by omega)).trans h.q1,r⟩,hk⟩

set_option maxHeartbeats 4000000 in
set_option maxRecDepth 100000 in
theorem beside_any {B T:Nat} {c:CL} {ow:Nat→Nat} {w:World} (h:CAt B T c ow w) (x:SubV) (hx:x.At w) (hs:0≤x.s2∧x.s2≤1099511627776) :
  Calls Tryz.prog 47 #[.pointer (some ⟨T,0,none⟩),.agg #[.int .i64 x.s0,.int .i64 x.s1,.int .i64 x.s2,.slice x.ra x.rs.length x.rc,.slice x.sa x.ss.length x.sc,.slice x.wa x.ws.length x.wc]] w (Ret (lkV (lookD c x)) w):=by
 have HS:=hid fun W (hb:Below w.heap.size w W)=>summary_any (h.below hb) x (hx.below hb) hs
 have HX:=hid fun W (hb:Below w.heap.size w W)=>hx.below hb
 have HR:=hid (rec_get h.row)
 have HT:=hid fun r (hr:r∈c.recs) W (hb:Below w.heap.size w W)=>((h.subs r hr).at_.below hb)
 have hT:=h.lt.2
 have hlen:c.recs.length≤33:=by have:=h.kp;omega
 have E4:=hid fun W (hb:Below w.heap.size w W)=>(hb.cell (p:=⟨T,4,none⟩) hT).trans (row9 h.box).2.2.2.2.1
 obtain ⟨V,hV⟩:∃ V,lookD c x=V:=⟨_,rfl⟩
 rw [hV]
 have HV:=hid hV
 unfold lookD at HV
 clear h hx hV
 generalize sumL c x=l0 at *
 go_enter Tryz.func47,Tryz.ntmps47
 go_upto_region 1 with fail
 generalize hW1:World.alloc _ _=w1
 have hA:Below w.heap.size w w1:=by rw [←hW1];exact below_auto
 have hz1:w.heap.size+1<w1.heap.size:=by rw [←hW1];simp
 have q0:w1.heap[w.heap.size]? = some (.cells #[.int .i64 x.s0,.int .i64 x.s1,.int .i64 x.s2,.slice x.ra x.rs.length x.rc,.slice x.sa x.ss.length x.sc,.slice x.wa x.ws.length x.wc] 41 (0,0)):=by rw [←hW1];exact (two_alloc w _ _).1
 have q1:w1.heap[w.heap.size+1]? = some (.cells #[.bool false,.bool false,.int .i64 0,.int .i64 0] 118 (0,0)):=by rw [←hW1];exact (two_alloc w _ _).2
 clear hW1
 obtain ⟨b0,b1,b2,b3,b4,b5⟩:=row6 q0
 have hS:=HS.out w1 hA
 unfold lkV at hS
 have hz0:w.heap.size<w1.heap.size:=by omega
 go_upto_region 2 with (go_at_call 113;with_reducible refine mQ (hS) ?_;intro w2 hb2 hc2 hf2 hz2;intros)
 have hA2:=hA.trans (hb2.mono (by omega))
 have q0:=(hb2.block _ hz0).trans q0
 have q1:=(hb2.block _ hz1).trans q1
 have hz2:w.heap.size+1<w2.heap.size:=by have:=hb2.size;omega
 clear hc2 hf2 hb2 b0 b1 b2 b3 b4 b5 hS hA hz1
 generalize hW3:World.alloc w2 _=w3
 obtain ⟨L,hL⟩:∃ L,L=w2.heap.size:=⟨_,rfl⟩
 have h3:BeI w x L l0 w3:=by
  have hb:Below w2.heap.size w2 w3:=by rw [←hW3];exact below_auto
  exact ⟨hA2.trans (hb.mono (by omega)),by omega,by rw [←hW3,hL];simp,(hb.block _ (by omega)).trans q0,(hb.block _ (by omega)).trans q1,by rw [←hW3,hL];exact heap_alloc_new w2 _⟩
 rw [←hL]
 clear hW3 hL q0 q1 hz2 hA2 HS hz0
 have t4:=E4.out w3 h3.hb
 have hT3:T<w3.heap.size:=by have:=h3.hb.size;omega
 go_upto_region 3 with fail
 go_loopw [16] (fun i wr=>∃ k:Nat,k≤c.recs.length∧i=.int .i64 k∧BeI w x L (recsL x l0 (c.recs.take k)) wr) (fun i _=>c.recs.length-(intOf i).toNat)
 case atStart=>exact ⟨0,Nat.zero_le _,rfl,h3⟩
 case round =>
  clear h3 t4 hT3
  obtain ⟨k,hk,rfl,hI⟩:=hrel
  by_cases hlt:k<c.recs.length
  ·obtain ⟨g,hra,hg,hcs⟩:=HR.out k hlt
   have hlt':(k:Int)<(c.recs.length:Int):=by omega
   have hkx:=hid (rec_some (rs:=c.recs) (k:=k) hlt)
   have hrm:=List.mem_of_getElem? hkx.out
   have hsn:=hid (recsL_snoc x l0 (c.recs.take k) (c.recs[k]?.getD default))
   generalize c.recs[k]?.getD default=r at *
   have hz:=hI.hb.size
   have hgr:g<wr.heap.size:=by omega
   have kk:=fun j v e=>(hI.hb.cell (p:=⟨g,k * 8+j,none⟩) hg).trans (hcs j v e)
   have d0:=kk 0 _ rfl
   have d1:=kk 1 _ rfl
   have d2:=kk 2 _ rfl
   have d3:=kk 3 _ rfl
   have d4:=kk 4 _ rfl
   have d5:=kk 5 _ rfl
   have d6:=kk 6 _ rfl
   have d7:=kk 7 _ rfl
   simp only [Nat.add_zero] at d0
   clear kk hcs
   rw [hra]
   go_upto_region 5 with fail
   generalize hW4:World.alloc wr _=w4
   have hb4:Below wr.heap.size wr w4:=by rw [←hW4];exact below_auto
   have hI4:=hI.below hb4
   obtain ⟨R,hR⟩:∃ R,R=wr.heap.size:=⟨_,rfl⟩
   have qR:w4.heap[R]? = some (.cells #[.int .i64 r.num,.int .i64 r.s.s0,.int .i64 r.s.s1,.int .i64 r.s.s2,.slice r.s.ra r.s.rs.length r.s.rc,.slice r.s.sa r.s.ss.length r.s.sc,.slice r.s.wa r.s.ws.length r.s.wc,.bool r.out] 122 (0,0)):=by rw [←hW4,hR];exact heap_alloc_new wr _
   have hRs:R<w4.heap.size:=by rw [←hW4,hR];simp
   have hRL:L<R:=by have:=hI.h2;omega
   have hRw:w.heap.size+1<R:=by have:=hI.h1;omega
   rw [←hR]
   clear hW4 hb4 hI hR d0 d1 d2 d3 d4 d5 d6 d7 hgr hz
   generalize recsL x l0 (c.recs.take k)=l at *
   have FIN:=hid fun (l':LookV) (wf:World) (hf:BeI w x L l' wf) (e:l'=recL x l r)=>(show ∃ k':Nat,k'≤c.recs.length∧Value.int .i64 ((k:Int)+1)=.int .i64 k'∧BeI w x L (recsL x l0 (c.recs.take k')) wf from ⟨k+1,by omega,by go_num,by rw [List.take_add_one,hkx.out,Option.toList_some,hsn.out,←e];exact hf⟩)
   have HXr:=hid (HX.out);have HTr:=hid (HT.out r hrm)
   clear hsn hkx HX HT HR hrm
   by_cases hn:r.num≤x.s2
   ·have e:l=recL x l r:=by unfold recL;rw [if_pos hn]
    obtain ⟨b0,b1,b2,b3,b4,b5⟩:=row6 hI4.q0
    obtain ⟨r0,-,-,-,-,-,-,-⟩:=row8 qR
    have hz4:w.heap.size<w4.heap.size:=by omega
    go_wp2_with fail
    go_roundw
    case rel=>exact FIN.out _ _ hI4 e
    case measure=>simp [intOf];omega
   ·have HE:Hid (recL x l r=⟨l.written||x.ws.any (fun k=>r.s.writes k),l.out||(x.meets r.s && r.out),if x.meets r.s=true∧l.least=0 then r.num else l.least,if r.s.meets x=true then r.num else l.most⟩):=hid (by unfold recL;rw [if_neg hn])
    obtain ⟨lw,lo,ll,lm⟩:=l
    simp only at HE
    obtain ⟨b0,b1,b2,b3,b4,b5⟩:=row6 hI4.q0
    obtain ⟨l0,l1,l2,l3,f0,f1,f2,f3⟩:=row4 hI4.ql
    obtain ⟨r0,r1,r2,r3,r4,r5,r6,r7⟩:=row8 qR
    simp only at l0 l1 l2 l3
    have hz4:w.heap.size<w4.heap.size:=by omega
    have hL4:L<w4.heap.size:=by omega
    go_upto_region 6 with fail
    go_cut [16] from 16 to 63 (fun t16 wc=>t16=.int .i64 k∧∃ lw':Bool,Hid (lw'=(lw||x.ws.any (fun k=>r.s.writes k)))∧BeI w x L ⟨lw',lo,ll,lm⟩ wc∧wc.heap[R]? = some (.cells #[.int .i64 r.num,.int .i64 r.s.s0,.int .i64 r.s.s1,.int .i64 r.s.s2,.slice r.s.ra r.s.rs.length r.s.rc,.slice r.s.sa r.s.ss.length r.s.sc,.slice r.s.wa r.s.ws.length r.s.wc,.bool r.out] 122 (0,0)))
    case first =>
     have hCF:=slContainsFuncB_any r.s x.wa x.wc R x.ws x.ws.length w4 rfl (HXr.out w4 hI4.hb).w (HTr.out w4 hI4.hb) hRs r1 r2 r3 r4 r5 r6
     generalize (x.ws.any fun k=>r.s.writes k)=av at *
     cases lw
     ·go_wp2_with (go_at_call 105;with_reducible refine mQ (hCF) ?_;intro w5 hb5 hc5 hf5 hz5;intros)
      go_meet
      have h5:=(hI4.below hb5).set (l':=⟨av,lo,ll,lm⟩) 0 (.bool av) rfl
      case rel=>exact ⟨rfl,av,hid (by simp),h5.1,(h5.2 R (by omega) (by omega)).trans ((hb5.block _ hRs).trans qR)⟩
     ·go_wp2_with fail
      go_meet
      have h5:=hI4.set (l':=⟨true,lo,ll,lm⟩) 0 (.bool true) rfl
      case rel=>exact ⟨rfl,true,hid (by simp),h5.1,(h5.2 R (by omega) (by omega)).trans qR⟩
    case rest =>
     clear b0 b1 b2 b3 b4 b5 l0 l1 l2 l3 f0 f1 f2 f3 r0 r1 r2 r3 r4 r5 r6 r7 hI4 qR hRs hz4 hL4
     obtain ⟨rfl,lw',HW,hI5,qR⟩:=hcut
     have hR5:R<wc.heap.size:=(Array.getElem?_eq_some_iff.1 qR).1
     obtain ⟨b0,b1,b2,b3,b4,b5⟩:=row6 hI5.q0
     obtain ⟨r0,r1,r2,r3,r4,r5,r6,r7⟩:=row8 qR
     have hz5:w.heap.size<wc.heap.size:=by omega
     have hM:=subMeets_any x r.s wc (HXr.out wc hI5.hb) (HTr.out wc hI5.hb)
     go_upto_if 39 with (go_at_call 116;with_reducible refine mQ (hM) ?_;intro w6 hb6 hc6 hf6 hz6;intros)
     have hI6:=hI5.below hb6
     have qR:=(hb6.block _ hR5).trans qR
     have hR6:R<w6.heap.size:=by omega
     clear hb6 hc6 hf6 hM b0 b1 b2 b3 b4 b5 r0 r1 r2 r3 r4 r5 r6 r7 hI5 hR5 hz5
     go_cut [16] from 16 to 63 (fun t16 wd=>t16=.int .i64 k∧∃ (lo':Bool) (ll':Int),Hid (lo'=(lo||(x.meets r.s && r.out)))∧Hid (ll'=if x.meets r.s=true∧ll=0 then r.num else ll)∧BeI w x L ⟨lw',lo',ll',lm⟩ wd∧wd.heap[R]? = some (.cells #[.int .i64 r.num,.int .i64 r.s.s0,.int .i64 r.s.s1,.int .i64 r.s.s2,.slice r.s.ra r.s.rs.length r.s.rc,.slice r.s.sa r.s.ss.length r.s.sc,.slice r.s.wa r.s.ws.length r.s.wc,.bool r.out] 122 (0,0)))
     case first =>
      cases hm:x.meets r.s
      ·go_wp2_with fail
       go_meet
       case rel=>exact ⟨rfl,lo,ll,hid (by simp [hm]),hid (by simp [hm]),hI6,qR⟩
      ·obtain ⟨l0,l1,l2,l3,f0,f1,f2,f3⟩:=row4 hI6.ql
       obtain ⟨r0,r1,r2,r3,r4,r5,r6,r7⟩:=row8 qR
       simp only at l0 l1 l2 l3
       have hL6:L<w6.heap.size:=by omega
       have hRn:R≠L:=by omega
       have hLn:L≠R:=by omega
       have hst:∀ v:Bool,BeI w x L ⟨lw',v,ll,lm⟩ (w6.setCell ⟨L,1,none⟩ (.bool v))∧(w6.setCell ⟨L,1,none⟩ (.bool v)).heap[R]? = some (.cells #[.int .i64 r.num,.int .i64 r.s.s0,.int .i64 r.s.s1,.int .i64 r.s.s2,.slice r.s.ra r.s.rs.length r.s.rc,.slice r.s.sa r.s.ss.length r.s.sc,.slice r.s.wa r.s.ws.length r.s.wc,.bool r.out] 122 (0,0)):=fun v=>by
        have h5:=hI6.set (l':=⟨lw',v,ll,lm⟩) 1 (.bool v) rfl
        exact ⟨h5.1,(h5.2 R hR6 hRn).trans qR⟩
       have hst2:∀ (v:Bool),BeI w x L ⟨lw',v,r.num,lm⟩ ((w6.setCell ⟨L,1,none⟩ (.bool v)).setCell ⟨L,2,none⟩ (.int .i64 r.num))∧((w6.setCell ⟨L,1,none⟩ (.bool v)).setCell ⟨L,2,none⟩ (.int .i64 r.num)).heap[R]? = some (.cells #[.int .i64 r.num,.int .i64 r.s.s0,.int .i64 r.s.s1,.int .i64 r.s.s2,.slice r.s.ra r.s.rs.length r.s.rc,.slice r.s.sa r.s.ss.length r.s.sc,.slice r.s.wa r.s.ws.length r.s.wc,.bool r.out] 122 (0,0)):=fun v=>by
        have h6:=(hst v).1.set (l':=⟨lw',v,r.num,lm⟩) 2 (.int .i64 r.num) rfl
        exact ⟨h6.1,(h6.2 R (by simpa using hR6) hRn).trans (hst v).2⟩
       have ST:=hid hst;have ST2:=hid hst2
       clear hst hst2 qR hI6
       by_cases hl:ll=0
       ·subst hl
        cases lo
        ·go_wp2_with fail
         go_meet
         case rel=>exact ⟨rfl,r.out,r.num,hid (by simp [hm]),hid (by simp [hm]),ST2.out r.out⟩
        ·go_wp2_with fail
         go_meet
         case rel=>exact ⟨rfl,true,r.num,hid (by simp [hm]),hid (by simp [hm]),ST2.out true⟩
       ·have hlb:(ll == 0)=false:=by simpa using hl
        cases lo
        ·go_wp2_with fail
         go_meet
         case rel=>exact ⟨rfl,r.out,ll,hid (by simp [hm]),hid (by simp [hm,hl]),ST.out r.out⟩
        ·go_wp2_with fail
         go_meet
         case rel=>exact ⟨rfl,true,ll,hid (by simp [hm]),hid (by simp [hm,hl]),ST.out true⟩
     case rest =>
      clear hI6 qR hR6
      obtain ⟨rfl,lo',ll',HO,HL,hI7,qR⟩:=hcut
      have hR7:R<wc.heap.size:=(Array.getElem?_eq_some_iff.1 qR).1
      obtain ⟨b0,b1,b2,b3,b4,b5⟩:=row6 hI7.q0
      obtain ⟨r0,r1,r2,r3,r4,r5,r6,r7⟩:=row8 qR
      have hz7:w.heap.size<wc.heap.size:=by omega
      have hM:=subMeets_any r.s x wc (HTr.out wc hI7.hb) (HXr.out wc hI7.hb)
      go_upto_if 58 with (go_at_call 116;with_reducible refine mQ (hM) ?_;intro w8 hb8 hc8 hf8 hz8;intros)
      have hI8:=hI7.below hb8
      obtain ⟨r0',-,-,-,-,-,-,-⟩:=row8 ((hb8.block _ hR7).trans qR)
      have hR8:R<w8.heap.size:=by omega
      have hL8:L<w8.heap.size:=by omega
      clear hb8 hc8 hf8 hM b0 b1 b2 b3 b4 b5 r0 r1 r2 r3 r4 r5 r6 r7 hI7 hR7 hz7 qR
      cases hm:r.s.meets x
      ·go_wp2_with fail
       go_roundw
       case rel=>exact FIN.out ⟨lw',lo',ll',lm⟩ _ hI8 (by rw [HE.out,HW.out,HO.out,HL.out,hm];rfl)
       case measure=>simp [intOf];omega
      ·obtain ⟨l0,l1,l2,l3,f0,f1,f2,f3⟩:=row4 hI8.ql
       have h9:=hI8.set (l':=⟨lw',lo',ll',r.num⟩) 3 (.int .i64 r.num) rfl
       have H9:=hid h9.1
       clear h9 hI8
       go_wp2_with fail
       go_roundw
       case rel=>exact FIN.out ⟨lw',lo',ll',r.num⟩ _ H9.out (by rw [HE.out,HW.out,HO.out,HL.out,hm];rfl)
       case measure=>simp [intOf];omega
  ·obtain rfl:k=c.recs.length:=by omega
   rw [List.take_of_length_le (Nat.le_refl _),HV.out] at hI
   obtain ⟨b0,b1,b2,b3,f0,f1,f2,f3⟩:=row4 hI.q1
   obtain ⟨l0,l1,l2,l3,-,-,-,-⟩:=row4 hI.ql
   have hw:=hI.hb
   have hz:=hI.hb.size
   have hz1:=hI.h1
   have hz2:=hI.h2
   clear hI
   go_wp2_with fail
   exact bodyPost_ret (v:=lkV V) (by simp [lkV,results,Tryz.results47,go_sem, *]) rfl ⟨rfl,by exact below_auto⟩

end Go.Proofs.YtdeeoddacnealaaGreat.C