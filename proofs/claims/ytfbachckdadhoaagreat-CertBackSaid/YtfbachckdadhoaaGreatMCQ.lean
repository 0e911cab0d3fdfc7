/- Several texts as one: CQ CT. -/
import Derived.Test.YtfbachckdadhoaaGreatMCR
import Derived.Test.YtfbachckdadhoaaGreatCO
namespace Go.Proofs.YtfbachckdadhoaaGreat.C
set_option linter.unusedVariables false
open Go.RowKit Fl
set_option linter.unusedSimpArgs false

theorem doneInfo:(Tryz.prog.info? 37).map (fun i=>(i.zero,i.size,i.bytes))=some (some (.agg #[.int .i64 0,.int .i64 0,.int .i64 0,.int .i64 0,.slice none 0 0,.slice none 0 0,.slice none 0 0]),7,104):=by kernel_rfl
theorem app_done {w:World} {B n:Nat} {a:Option Addr} {cap:Nat} {cs:List Value} (num s0 s1 s2 ra sa wa:Value) (h1:∀ v∈[num,s0,s1,s2,ra,sa,wa],v.oneCell'=true) (hown:w.ownsRow B 37 7 (.slice a n cap) n cs) (hB:B≤w.heap.size) (hl:n≤40) (G:Nat) (hG:w.heap[G]? = some (.cells #[num,s0,s1,s2,ra,sa,wa] 37 (0,0))) :
  ∃ a' c' w',(∀ ty,(Builtin.append_ #[28,28] ty #[.slice a n cap,.slice (some ⟨G,0,none⟩) 1 1]).run Tryz.prog w=.ok (.slice a' (n+1) c') w')∧w'.ownsRow B 37 7 (.slice a' (n+1) c') (n+1) (cs++[num,s0,s1,s2,ra,sa,wa])∧Below B w w':=by
 obtain ⟨i0,hi0,hz0,hzs,hzb⟩:=info_parts doneInfo
 obtain ⟨v',w',hr,h2,h3⟩:=run_append_own2 (P:=Tryz.prog) w B 28 37 i0 _ 7 104 Tryz.underlying28 hi0 hz0 hzs hzb rfl (by omega) _ _ _ hown ⟨G,0,none⟩ 1 1 [num,s0,s1,s2,ra,sa,wa] rfl
  (fun j u hj=>by rw [K.addr0,cell_row hG];rw [←hj];simp) h1 (by omega) (by unfold maxLen;omega) (by omega) hB
 have hv:∃ va vc,v'=.slice va (n+1) vc:=by
  rcases h2.2 with ⟨rfl,h4⟩|⟨g,cap,cur,rfl,_⟩
  ·omega
  ·exact ⟨_,_,rfl⟩
 obtain ⟨a',c',rfl⟩:=hv
 exact ⟨a',c',w',hr,h2,(Below.refl _ _).grown h3.1 hB (fun k hk=>(hown.lt k hk).1)⟩
def RcR (Y0:World) (B:Nat) (num:Int) (x:SubV) (k:Nat) (s:Value) (cs:List Value):List Value→World→Prop
 | [],X=>X=Y0∧Y0.ownsRow B 37 7 s k cs
 | [v],X=>∃ y:SubV,v=.agg #[.int .i64 y.s0,.int .i64 y.s1,.int .i64 y.s2,.slice y.ra y.rs.length y.rc,.slice y.sa y.ss.length y.sc,.slice y.wa y.ws.length y.wc]∧Below Y0.heap.size Y0 X∧Y0.ownsRow B 37 7 s k cs
 | [v,u],X=>∃ (y:SubV) (X1:World),v=.agg #[.int .i64 y.s0,.int .i64 y.s1,.int .i64 y.s2,.slice y.ra y.rs.length y.rc,.slice y.sa y.ss.length y.sc,.slice y.wa y.ws.length y.wc]∧u=.slice (some ⟨X1.heap.size,0,none⟩) 1 1∧X=X1.alloc (.cells #[.int .i64 num,.int .i64 y.s0,.int .i64 y.s1,.int .i64 y.s2,.slice y.ra y.rs.length y.rc,.slice y.sa y.ss.length y.sc,.slice y.wa y.ws.length y.wc] 37)∧Below Y0.heap.size Y0 X1∧Y0.ownsRow B 37 7 s k cs
 | _ :: _ :: u :: _,X=>∃ (a':Option Addr) (c':Nat) (cs':List Value),u=.slice a' (k+1) c'∧X.ownsRow B 37 7 (.slice a' (k+1) c') (k+1) cs'∧Below B Y0 X
theorem RcR.early {Y0:World} {B:Nat} {num:Int} {x:SubV} {k:Nat} {s:Value} {cs:List Value}:∀ {ms:List Value} {X:World},ms.length≤2→RcR Y0 B num x k s cs ms X→Below Y0.heap.size Y0 X
 | [],X,_,h=>by rw [h.1];exact Below.refl _ _
 | [_],_,_,h=>by
  obtain ⟨y,_,hb,_⟩:=h
  exact hb
 | [_,_],_,_,h=>by
  obtain ⟨y,X1,_,_,rfl,hb,_⟩:=h
  exact hb.alloc hb.size _
 | _ :: _ :: _ :: _,_,hl,_=>by simp at hl
def RecRet (n:Nat) (w:World) (e:Ending) (w':World):Prop:=∃ a c,e=.returned (.slice a n c)∧Below w.heap.size w w'
set_option maxHeartbeats 4000000 in
set_option maxRecDepth 100000 in
theorem recent_any {B T:Nat} {c:CL} {ow:Nat→Nat} {w:World} (h:CAt B T c ow w):Calls Tryz.prog 24 #[.pointer (some ⟨T,0,none⟩)] w (RecRet c.recs.length w):=by
 obtain ⟨-,-,-,-,k4,-⟩:=row9 h.box
 have hT:=h.lt.2
 have HR:=hid (rec_get h.row)
 have HC:=hid fun W (hb:Below w.heap.size w W) r (hr:r∈c.recs)=>clone_any r.s W ((h.subs r hr).at_.below hb) (h.chk r hr).1 (h.chk r hr).2.1 (h.chk r hr).2.2
 have hlen:c.recs.length≤33:=by have:=h.kp;omega
 clear h
 go_enter Tryz.func24,Tryz.ntmps24
 go_upto_region 3 with fail
 go_loopw [3,11] (fun sv i wr=>∃ (k:Nat) (a:Option Addr) (cap:Nat) (cs:List Value),k≤c.recs.length∧i=.int .i64 k∧sv=.slice a k cap∧Hid (wr.ownsRow w.heap.size 37 7 (.slice a k cap) k cs)∧Below w.heap.size w wr) (fun _ i _=>c.recs.length-(intOf i).toNat)
 case atStart=>exact ⟨0,none,0,[],Nat.zero_le _,rfl,rfl,hid (World.ownsRow_nil _ _ _ _),Below.refl _ _⟩
 case round =>
  obtain ⟨k,a,cap,cs,hk,rfl,rfl,HO,hbw⟩:=hrel
  have hz:=hbw.size
  by_cases hlt:k<c.recs.length
  ·obtain ⟨g,hra,hg,hcs⟩:=HR.out k hlt
   have hlt':(k:Int)<(c.recs.length:Int):=by omega
   have hkx:=rec_some (rs:=c.recs) (k:=k) hlt
   have hrm:=List.mem_of_getElem? hkx
   generalize c.recs[k]?.getD default=r at *
   have hgr:g<wr.heap.size:=by omega
   have kk:=fun j v e=>(hbw.cell (p:=⟨g,k * 8+j,none⟩) hg).trans (hcs j v e)
   have d0:=kk 0 _ rfl
   have d1:=kk 1 _ rfl
   have d2:=kk 2 _ rfl
   have d3:=kk 3 _ rfl
   have d4:=kk 4 _ rfl
   have d5:=kk 5 _ rfl
   have d6:=kk 6 _ rfl
   have d7:=kk 7 _ rfl
   simp only [Nat.add_zero] at d0
   clear kk hcs hkx
   rw [hra]
   go_upto_region 5 with fail
   generalize hW4:World.alloc wr _=w4
   have hb4:Below wr.heap.size wr w4:=by rw [←hW4];exact below_auto
   obtain ⟨R,hR⟩:∃ R,R=wr.heap.size:=⟨_,rfl⟩
   have qR:w4.heap[R]? = some (.cells #[.int .i64 r.num,.int .i64 r.s.s0,.int .i64 r.s.s1,.int .i64 r.s.s2,.slice r.s.ra r.s.rs.length r.s.rc,.slice r.s.sa r.s.ss.length r.s.sc,.slice r.s.wa r.s.ws.length r.s.wc,.bool r.out] 100 (0,0)):=by rw [←hW4,hR];exact heap_alloc_new wr _
   rw [←hR]
   have hRl:=(Array.getElem?_eq_some_iff.1 qR).1
   clear hW4 d0 d1 d2 d3 d4 d5 d6 d7 hgr
   obtain ⟨r0,r1,r2,r3,r4,r5,r6,r7⟩:=row8 qR
   have hbw4:=hbw.trans (hb4.mono hz)
   obtain ⟨Y0,hY0⟩:∃ Y:World,Y = { w4 with drawn:=w4.drawn+1 }:=⟨_,rfl⟩
   have hb0:Below w4.heap.size w4 Y0:=by rw [hY0];exact Below.drew (Below.refl _ _)
   have hb04:=hb4.trans (hb0.mono hb4.size)
   have HO0:=hid (HO.out.kept (K.grown_of_below hb04) (by cases (Value.slice a k cap).ownBlock <;> simp))
   have HY0:=hid hY0
   have HB0:=hid (show Below w.heap.size w Y0∧w.heap.size≤Y0.heap.size from ⟨hbw4.trans (hb0.mono hbw4.size),by have:=hb0.size;have:=hb4.size;omega⟩)
   have HRX:=hid fun X (hb:Below Y0.heap.size Y0 X)=>(show X.heap[R]? = some (.cells #[.int .i64 r.num,.int .i64 r.s.s0,.int .i64 r.s.s1,.int .i64 r.s.s2,.slice r.s.ra r.s.rs.length r.s.rc,.slice r.s.sa r.s.ss.length r.s.sc,.slice r.s.wa r.s.ws.length r.s.wc,.bool r.out] 100 (0,0)) from by
    have:=hb0.size
    exact ((hb.block _ (by omega)).trans (hb0.block _ hRl)).trans qR)
   have HCL:=hid (HC.out Y0 HB0.out.1 r hrm)
   have HK40:=hid (show k≤40 by omega)
   clear hY0 hb0 hb04 qR hRl hbw4 hb4 hR
   refine wp_region_chainV [(0,fun _=>.slice a k cap),(0,fun _=>.pointer (some ⟨R,0,none⟩)),(0,fun _=>.pointer (some ⟨R,0,none⟩)),(0,fun _=>.int .i64 r.num),(0,fun _=>.pointer (some ⟨R,0,none⟩)),(0,fun _=>.pointer (some ⟨R,1,none⟩)),(0,fun _=>.agg #[.int .i64 r.s.s0,.int .i64 r.s.s1,.int .i64 r.s.s2,.slice r.s.ra r.s.rs.length r.s.rc,.slice r.s.sa r.s.ss.length r.s.sc,.slice r.s.wa r.s.ws.length r.s.wc]),(1,fun ms=>ms.getD 0 undef),(1,fun ms=>.agg (#[.int .i64 r.num]++(ms.getD 0 undef).cells)),(2,fun ms=>ms.getD 1 undef),(3,fun ms=>ms.getD 2 undef),(3,fun ms=>ms.getD 2 undef)] (RcR Y0 w.heap.size r.num r.s k (.slice a k cap) cs) (fun _ _=>False) [7,9,10] rfl (by kernel_rfl) (by kernel_rfl) (by kernel_rfl) (by decide) (by decide) ⟨HY0.out.symm,HO0.out⟩ ?_ ?_ ?_
   ·simp only [StepsV,List.nil_append,List.cons_append,Nat.zero_add,Nat.reduceAdd]
    refine ⟨?p0,?p1,?p2,?l3,?p4,?p5,?l6,?cl,?b8,?bs,?ap,?asg,trivial⟩
    case p0 =>
     intro ms X g1 g2 hx
     refine mM ?_
     generalize hR:(fun v w'=>(_→v=_)∧_)=RR
     have HR:=hid hR
     have HXX:=hid hx
     clear hR g1 g2 hx
     try refine mV ?_
     go_wp2_with fail
     have hR:=HR.out
     subst hR
     exact ⟨rfl,fun _=>rfl,HXX.out⟩
    case p1 =>
     intro ms X g1 g2 hx
     refine mM ?_
     generalize hR:(fun v w'=>(_→v=_)∧_)=RR
     have HR:=hid hR
     have HXX:=hid hx
     clear hR g1 g2 hx
     try refine mV ?_
     go_wp2_with fail
     have hR:=HR.out
     subst hR
     exact ⟨rfl,fun _=>rfl,HXX.out⟩
    case p2 =>
     intro ms X g1 g2 hx
     refine mM ?_
     generalize hR:(fun v w'=>(_→v=_)∧_)=RR
     have HR:=hid hR
     have HXX:=hid hx
     clear hR g1 g2 hx
     try refine mV ?_
     go_wp2_with fail
     have hR:=HR.out
     subst hR
     exact ⟨rfl,fun _=>rfl,HXX.out⟩
    case l3 =>
     intro ms X g1 g2 hx
     have hbx:=RcR.early (Nat.le_trans g2 (by decide +kernel)) hx
     obtain ⟨k0,k1,k2,k3,k4,k5,k6,k7⟩:=row8 (HRX.out X hbx)
     have kz:=(Array.getElem?_eq_some_iff.1 (HRX.out X hbx)).1
     refine mM ?_
     generalize hR:(fun v w'=>(_→v=_)∧_)=RR
     have HR:=hid hR
     have HXX:=hid hx
     clear hR g1 g2 hx hbx
     try refine mV ?_
     go_wp2_with fail
     have hR:=HR.out
     subst hR
     exact ⟨rfl,fun _=>rfl,HXX.out⟩
    case p4 =>
     intro ms X g1 g2 hx
     refine mM ?_
     generalize hR:(fun v w'=>(_→v=_)∧_)=RR
     have HR:=hid hR
     have HXX:=hid hx
     clear hR g1 g2 hx
     try refine mV ?_
     go_wp2_with fail
     have hR:=HR.out
     subst hR
     exact ⟨rfl,fun _=>rfl,HXX.out⟩
    case p5 =>
     intro ms X g1 g2 hx
     refine mM ?_
     generalize hR:(fun v w'=>(_→v=_)∧_)=RR
     have HR:=hid hR
     have HXX:=hid hx
     clear hR g1 g2 hx
     try refine mV ?_
     go_wp2_with fail
     have hR:=HR.out
     subst hR
     exact ⟨rfl,fun _=>rfl,HXX.out⟩
    case l6 =>
     intro ms X g1 g2 hx
     have hbx:=RcR.early (Nat.le_trans g2 (by decide +kernel)) hx
     obtain ⟨k0,k1,k2,k3,k4,k5,k6,k7⟩:=row8 (HRX.out X hbx)
     have kz:=(Array.getElem?_eq_some_iff.1 (HRX.out X hbx)).1
     refine mM ?_
     generalize hR:(fun v w'=>(_→v=_)∧_)=RR
     have HR:=hid hR
     have HXX:=hid hx
     clear hR g1 g2 hx hbx
     try refine mV ?_
     go_wp2_with fail
     have hR:=HR.out
     subst hR
     exact ⟨rfl,fun _=>rfl,HXX.out⟩
    case cl =>
     intro ms X g1 g2 hx
     have hl:ms.length=0:=Nat.le_antisymm (Nat.le_trans g2 (by decide +kernel)) (Nat.le_trans (by decide +kernel) g1)
     obtain rfl:=P.ls0 hl
     obtain ⟨e,ho⟩:=hx
     obtain rfl:Y0=X:=e.symm
     refine mM ?_
     generalize hR:(fun v w'=>(_→v=_)∧_)=RR
     have HR:=hid hR
     clear hR g1 g2 hl
     refine mV ?_
     have HC:=hid (HCL.out)
     go_wp2_with fail
     refine HC.out.mono ?_
     rintro e X2 ⟨y,rfl,hy,hss,hb⟩
     have HE:Hid (RcR Y0 w.heap.size r.num r.s k (.slice a k cap) cs [.agg #[.int .i64 y.s0,.int .i64 y.s1,.int .i64 y.s2,.slice y.ra y.rs.length y.rc,.slice y.sa y.ss.length y.sc,.slice y.wa y.ws.length y.wc]] X2):=hid (⟨y,rfl,hb,ho⟩)
     clear HC
     go_wp2_with fail
     have hR:=HR.out
     subst hR
     exact ⟨rfl,fun _=>rfl,HE.out⟩
    case b8 =>
     intro ms X g1 g2 hx
     have hl1:ms.length=1:=Nat.le_antisymm (Nat.le_trans g2 (by decide +kernel)) (Nat.le_trans (by decide +kernel) g1)
     obtain ⟨v0,rfl⟩:=P.ls1 hl1
     have hx':=hx
     obtain ⟨y,e,hb,ho⟩:=hx'
     subst e
     refine mM ?_
     generalize hR:(fun v w'=>(_→v=_)∧_)=RR
     have HR:=hid hR
     have HXX:=hid hx
     clear hR g1 g2 hx hb ho hl1
     try refine mV ?_
     go_wp2_with fail
     have hR:=HR.out
     subst hR
     exact ⟨rfl,fun _=>rfl,HXX.out⟩
    case bs =>
     intro ms X g1 g2 hx
     have hlk:ms.length=1:=Nat.le_antisymm (Nat.le_trans g2 (by decide +kernel)) (Nat.le_trans (by decide +kernel) g1)
     obtain ⟨v0,rfl⟩:=P.ls1 hlk
     obtain ⟨y,rfl,hb,ho⟩:=hx
     refine mM ?_
     generalize hR:(fun v w'=>(_→v=_)∧_)=RR
     have HR2:=hid hR
     clear hR g1 g2 hlk
     refine mV ?_
     have HE:Hid (RcR Y0 w.heap.size r.num r.s k (.slice a k cap) cs [.agg #[.int .i64 y.s0,.int .i64 y.s1,.int .i64 y.s2,.slice y.ra y.rs.length y.rc,.slice y.sa y.ss.length y.sc,.slice y.wa y.ws.length y.wc],.slice (some ⟨X.heap.size,0,none⟩) 1 1] (X.alloc (.cells #[.int .i64 r.num,.int .i64 y.s0,.int .i64 y.s1,.int .i64 y.s2,.slice y.ra y.rs.length y.rc,.slice y.sa y.ss.length y.sc,.slice y.wa y.ws.length y.wc] 37))):=hid ⟨y,X,rfl,rfl,rfl,hb,ho⟩
     clear hb ho
     go_wp2_with fail
     have hR:=HR2.out
     subst hR
     exact ⟨rfl,fun _=>rfl,HE.out⟩
    case ap =>
     intro ms X g1 g2 hx
     have hlk:ms.length=2:=Nat.le_antisymm (Nat.le_trans g2 (by decide +kernel)) (Nat.le_trans (by decide +kernel) g1)
     obtain ⟨v0,v1,rfl⟩:=P.ls2 hlk
     obtain ⟨y,X1,rfl,rfl,rfl,hb,ho⟩:=hx
     have hb2:Below X1.heap.size X1 (X1.alloc (.cells #[.int .i64 r.num,.int .i64 y.s0,.int .i64 y.s1,.int .i64 y.s2,.slice y.ra y.rs.length y.rc,.slice y.sa y.ss.length y.sc,.slice y.wa y.ws.length y.wc] 37)):=by exact below_auto
     have hbt:=hb.trans (hb2.mono hb.size)
     have hq:(X1.alloc (.cells #[.int .i64 r.num,.int .i64 y.s0,.int .i64 y.s1,.int .i64 y.s2,.slice y.ra y.rs.length y.rc,.slice y.sa y.ss.length y.sc,.slice y.wa y.ws.length y.wc] 37)).heap[X1.heap.size]? = some (.cells #[.int .i64 r.num,.int .i64 y.s0,.int .i64 y.s1,.int .i64 y.s2,.slice y.ra y.rs.length y.rc,.slice y.sa y.ss.length y.sc,.slice y.wa y.ws.length y.wc] 37 (0,0)):=heap_alloc_new X1 _
     obtain ⟨a',c',X3,hrun,ho3,hb3⟩:=app_done _ _ _ _ _ _ _ (by intro v hv;simp at hv;rcases hv with rfl|rfl|rfl|rfl|rfl|rfl|rfl <;> rfl) (ho.kept (K.grown_of_below hbt) (by cases (Value.slice a k cap).ownBlock <;> simp)) (Nat.le_trans HB0.out.2 hbt.size) HK40.out X1.heap.size hq
     have HRUN:=hid hrun
     refine mM ?_
     generalize hR:(fun v w'=>(_→v=_)∧_)=RR
     have HR2:=hid hR
     clear hR g1 g2 hlk
     refine mV ?_
     have HE:Hid (RcR Y0 w.heap.size r.num r.s k (.slice a k cap) cs [.agg #[.int .i64 y.s0,.int .i64 y.s1,.int .i64 y.s2,.slice y.ra y.rs.length y.rc,.slice y.sa y.ss.length y.sc,.slice y.wa y.ws.length y.wc],.slice (some ⟨X1.heap.size,0,none⟩) 1 1,.slice a' (k+1) c'] X3):=hid ⟨a',c',_,rfl,ho3,(hbt.mono HB0.out.2).trans hb3⟩
     clear hb ho hb2 hbt hq ho3 hb3 hrun
     go_wp2_with (at_builtin;refine Lib.wpList_append_run _ rfl _ _ _ _ rfl _ _ rfl rfl _ _ (HRUN.out _) ?_)
     have hR:=HR2.out
     subst hR
     exact ⟨rfl,fun _=>rfl,HE.out⟩
    case asg =>
     intro ms X g1 g2 hx
     refine mM ?_
     generalize hR:(fun v w'=>(_→v=_)∧_)=RR
     have HR:=hid hR
     have HXX:=hid hx
     clear hR g1 g2 hx
     try refine mV ?_
     go_wp2_with fail
     have hR:=HR.out
     subst hR
     exact ⟨rfl,fun _=>rfl,HXX.out⟩
   ·intro ms X hl hx
    obtain ⟨v0,v1,v2,rfl⟩:=P.ls3 hl
    obtain ⟨a',c',cs',rfl,ho,hb⟩:=hx
    have HO1:=hid ho
    have HB1:=hid (HB0.out.1.trans hb)
    refine mV ?_
    clear hl ho hb
    generalize Value.cells v0=vcs
    go_wp2_with fail
    go_roundw
    case rel=>first|exact ⟨k+1,a',c',cs',by omega,by go_num,by go_num,HO1,HB1.out⟩|((repeat apply Exists.intro);exact ⟨⟨k+1,a',c',cs',by omega,by go_num,rfl,HO1,HB1.out⟩,rfl⟩)
    case measure=>simp [intOf];omega
   ·exact fun _ _ _ _ hx=>hx.elim
  ·obtain rfl:k=c.recs.length:=by omega
   go_wp2_with fail
   go_ret
   exact ⟨a,cap,rfl,hbw⟩
end Go.Proofs.YtfbachckdadhoaaGreat.C
namespace Go.Proofs.YtfbachckdadhoaaGreat.C
set_option linter.unusedVariables false
open Go.RowKit Fl
set_option linter.unusedSimpArgs false

theorem dec_ok {B T:Nat} {c:CL} {ow:Nat→Nat} {w:World} (h:CAt B T c ow w) (hkl:(c.recs.length:Int)≤c.keep) {x y:SubV} (hs:SameS y x) (hy:SubL (fun k=>ow k=0) y w) (hchk:K.SubV.check x=0) (hcode:codeD (CL.n c) (SubV.n x) 0=0) {n:Int} (hn:c.count+1=n) :
  Calls Tryz.prog 18 #[.pointer (some ⟨T,0,none⟩),.agg #[.int .i64 y.s0,.int .i64 y.s1,.int .i64 y.s2,.slice y.ra y.rs.length y.rc,.slice y.sa y.ss.length y.sc,.slice y.wa y.ws.length y.wc]] w fun e w'=>e=.returned (.agg #[.int .i64 0,.int .i64 n])∧∃ (c':CL) (ow':Nat→Nat),CAt B T c' ow' w'∧Fr ow ow' w w'∧CL.n c'=(CL.n c).commit (SubV.n x) (decide (0<(lookD (CL.n c) (SubV.n x)).least)):=by
 subst hn
 have hc:codeD c y (K.SubV.check y)=0:=by rw [check_same hs,hchk,←codeD_n,same_n hs];exact hcode
 refine (decide_any h hkl y hy).mono ?_
 rintro e w' ⟨ow',hF,⟨h1,_⟩|⟨_,rfl,z,a,k,hz,hC⟩⟩
 ·exact absurd hc h1
 ·refine ⟨rfl,_,ow',hC,hF,?_⟩
  rw [commit_n,same_n hz,same_n hs,←lookD_n c y,same_n hs]
theorem dec_no {B T:Nat} {c:CL} {ow:Nat→Nat} {w:World} (h:CAt B T c ow w) (hkl:(c.recs.length:Int)≤c.keep) {x y:SubV} (hs:SameS y x) (hy:SubL (fun k=>ow k=0) y w) {code:Int} (hcode:codeD (CL.n c) (SubV.n x) (K.SubV.check x)=code) (hne:code≠0) :
  Calls Tryz.prog 18 #[.pointer (some ⟨T,0,none⟩),.agg #[.int .i64 y.s0,.int .i64 y.s1,.int .i64 y.s2,.slice y.ra y.rs.length y.rc,.slice y.sa y.ss.length y.sc,.slice y.wa y.ws.length y.wc]] w fun e w'=>e=.returned (.agg #[.int .i64 code,.int .i64 0])∧∃ ow':Nat→Nat,CAt B T c ow' w'∧Fr ow ow' w w':=by
 have hc:codeD c y (K.SubV.check y)=code:=by rw [check_same hs,←codeD_n,same_n hs];exact hcode
 refine (decide_any h hkl y hy).mono ?_
 rintro e w' ⟨ow',hF,⟨h1,rfl,hC⟩|⟨h1,_⟩⟩
 ·exact ⟨by rw [hc],ow',hC,hF⟩
 ·exact absurd (hc.symm.trans h1) hne
structure Two (B1 T1:Nat) (c1:CL) (ow1:Nat→Nat) (B2 T2:Nat) (c2:CL) (ow2:Nat→Nat) (W:World):Prop where
 a:CAt B1 T1 c1 ow1 W
 b:CAt B2 T2 c2 ow2 W
 dis:∀ k,ow1 k≠0→ow2 k=0
section
variable {B1 T1 B2 T2 : Nat} {c1 c2 c' : CL} {ow1 ow2 ow' : Nat → Nat} {W W' : World}
theorem Two.swap (h:Two B1 T1 c1 ow1 B2 T2 c2 ow2 W):Two B2 T2 c2 ow2 B1 T1 c1 ow1 W:=⟨h.b,h.a,fun k hk=>Classical.byContradiction fun h0=>hk (h.dis k h0)⟩
theorem Two.below (h:Two B1 T1 c1 ow1 B2 T2 c2 ow2 W) (hb:Below W.heap.size W W'):Two B1 T1 c1 ow1 B2 T2 c2 ow2 W':=⟨h.a.below hb,h.b.below hb,h.dis⟩
theorem Two.step (h:Two B1 T1 c1 ow1 B2 T2 c2 ow2 W) (ha:CAt B1 T1 c' ow' W') (f:Fr ow1 ow' W W'):Two B1 T1 c' ow' B2 T2 c2 ow2 W' :=
 ⟨ha,h.b.keep f.size fun k hk h2=>f.block k hk (Classical.byContradiction fun h0=>h2 (h.dis k h0)),fun k hk=>by
  by_cases hl:k<W.heap.size
  ·exact h.dis k (by rw [←f.own k hl];exact hk)
  ·exact Classical.byContradiction fun h0=>hl (h.b.low k h0).2⟩
theorem Two.make (h:CAt B1 T1 c1 ow1 W) (hb:Below W.heap.size W W') (h2:CAt W.heap.size T2 c2 ow2 W'):Two B1 T1 c1 ow1 W.heap.size T2 c2 ow2 W' :=
 ⟨h.below hb,h2,fun k hk=>Classical.byContradiction fun h0=>by have:=(h.low k hk).2;have:=(h2.low k h0).1;omega⟩
end
theorem SubL.fresh {B T:Nat} {c:CL} {ow:Nat→Nat} {W W':World} {y:SubV} (h:CAt B T c ow W) (hy:SubL (fun b=>W.heap.size≤b) y W'):SubL (fun k=>ow k=0) y W' :=
 hy.kept (fun k _ hk=>Classical.byContradiction fun h0=>by have:=(h.low k h0).2;omega) fun _ _ _=>rfl
theorem new44 (W:World):Calls Tryz.prog 11 #[.agg #[.int .i64 4,.int .i64 4]] W (NewCRet 4 4 W):=new_any 4 4 W ⟨by decide,by decide⟩
theorem new10 (W:World):Calls Tryz.prog 11 #[.agg #[.int .i64 1,.int .i64 0]] W (NewCRet 1 0 W):=new_any 1 0 W ⟨by decide,by decide⟩
theorem oneC_facts {c:CL} {kp m:Int} {x:SubV} (e:CL.n c=oneC kp m x):c.recs.length=1∧c.keep=kp∧c.count=1∧c.horizon=0:=by
 refine ⟨?_,congrArg CL.keep e,congrArg CL.count e,congrArg CL.horizon e⟩
 have:=congrArg (fun c:CL=>c.recs.length) e
 simpa [CL.n,oneC] using this
theorem first_commit {c:CL} {kp m:Int} {t1 t2 t3 t4:Nat} (hk:1≤kp) {x:SubV} {s:Int} {r k:Nat} (hx:x=oneV s r k) (h:CL.n c=(CL.n (newC kp m t1 t2 t3 t4)).commit (SubV.n x) (decide (0<(lookD (CL.n (newC kp m t1 t2 t3 t4)) (SubV.n x)).least))):CL.n c=oneC kp m (oneV s r k):=by
 subst hx
 rw [h]
 show (newC kp m 0 0 0 0).commit (oneV s r k) (decide (0<(lookD (newC kp m 0 0 0 0) (oneV s r k)).least))=_
 rw [lookD_new]
 exact commit_new kp m hk _
set_option maxHeartbeats 4000000 in
set_option maxRecDepth 100000 in
theorem alive11_any (w:World):Calls Tryz.prog 12 #[] w (Ret (.bool true) w):=by
 have i1:4607182418800017408≤inf:=by unfold inf;omega
 have i2:4611686018427387904≤inf:=by unfold inf;omega
 have i5:4617315517961601024≤inf:=by unfold inf;omega
 have i6:4618441417868443648≤inf:=by unfold inf;omega
 have I1:=hid i1;have I2:=hid i2;have I5:=hid i5;have I6:=hid i6
 clear i1 i2 i5 i6
 go_enter Tryz.func12,Tryz.ntmps12
 go_wp2_with fail
 refine (new44 w).mono ?_
 rintro e w1 ⟨T1,p1,p2,p3,p4,ow1,rfl,hC1,hb1⟩
 go_wp2_with fail
 refine (new10 w1).mono ?_
 rintro e w2 ⟨T2,r1,r2,r3,r4,ow2,rfl,hC2,hb2⟩
 have h2:=Two.make hC1 hb2 hC2
 have B2':=hb1.trans (hb2.mono hb1.size)
 have hw1:=hb1.size
 have H2:=hid h2
 have HB2:=hid B2'
 clear hC1 hC2 hb1 hb2 h2 B2'
 go_wp2_with fail
 refine (oneS_any 1 4607182418800017408 4611686018427387904 w2 (by omega) (by omega)).mono ?_
 rintro e w3 ⟨x1,rfl,hx1,hs1,hb3⟩
 have h3:=H2.out.below hb3
 have D1:=hid (dec_ok h3.a (by simp [newC]) hs1 (SubL.fresh H2.out.a hx1) (check_one 1 4607182418800017408 4611686018427387904 (by omega) I1.out I2.out) (code_new 4 4 1 4607182418800017408 4611686018427387904) (n:=1) rfl)
 have HB3:=hid (HB2.out.trans (hb3.mono HB2.out.size))
 have H3:=hid h3
 clear h3 hb3 hx1 hs1
 go_wp2_with fail
 refine D1.out.mono ?_
 rintro e w4 ⟨rfl,c1,ow1',hC4,hF4,hn4⟩
 have e4:=first_commit (by decide) rfl hn4
 have H4:=hid (H3.out.step hC4 hF4)
 have HB4:=hid (HB3.out.trans ((H3.out.a.fr_below hF4)))
 have E4:=hid e4
 clear hC4 hF4 hn4 e4 D1
 go_wp2_with fail
 refine (oneS_any 2 4611686018427387904 4607182418800017408 w4 (by omega) (by omega)).mono ?_
 rintro e w5 ⟨x2,rfl,hx2,hs2,hb5⟩
 have h5:=H4.out.below hb5
 have f4:=oneC_facts E4.out
 have D2:=hid (dec_no h5.a (by rw [f4.1,f4.2.1];decide) hs2 (SubL.fresh H4.out.a hx2) (code:=112) (by rw [E4.out,check_one 2 4611686018427387904 4607182418800017408 (by omega) I2.out I1.out];exact code_danger 4 4 1 2 4607182418800017408 4611686018427387904 I1.out I2.out (by decide)) (by decide))
 have HB5:=hid (HB4.out.trans (hb5.mono HB4.out.size))
 have H5:=hid h5
 have F4:=hid f4
 clear h5 hb5 hx2 hs2 f4
 go_wp2_with fail
 refine D2.out.mono ?_
 rintro e w6 ⟨rfl,ow1'',hC6,hF6⟩
 have H6:=hid (H5.out.step hC6 hF6)
 have HB6:=hid (HB5.out.trans (H5.out.a.fr_below hF6))
 clear hC6 hF6 D2
 go_wp2_with fail
 generalize hW7:World.alloc _ _=w7
 have hb7:Below w6.heap.size w6 w7:=by rw [←hW7];exact below_auto
 have q3:w7.heap[w6.heap.size]? = some (.cells #[.int .i64 0,.int .i64 1] 41 (0,0)):=by rw [←hW7];exact (two_alloc w6 _ _).1
 have q4:w7.heap[w6.heap.size+1]? = some (.cells #[.int .i64 112,.int .i64 0] 41 (0,0)):=by rw [←hW7];exact (two_alloc w6 _ _).2
 obtain ⟨V,hV⟩:∃ V,V=w6.heap.size:=⟨_,rfl⟩
 have z3:ow2 V=0:=Classical.byContradiction fun h0=>by have:=(H6.out.b.low V h0).2;omega
 have z4:ow2 (V+1)=0:=Classical.byContradiction fun h0=>by have:=(H6.out.b.low _ h0).2;omega
 rw [←hV] at q3 q4 ⊢
 have H7:=hid (H6.out.below hb7).swap
 have HB7:=hid (HB6.out.trans (hb7.mono HB6.out.size))
 have Q3:=hid q3;have Q4:=hid q4;have Z3:=hid z3;have Z4:=hid z4
 clear hW7 hb7 q3 q4 hV z3 z4
 refine (oneS_any 1 4617315517961601024 4607182418800017408 w7 (by omega) (by omega)).mono ?_
 rintro e w8 ⟨x3,rfl,hx3,hs3,hb8⟩
 have h8:=H7.out.below hb8
 have D3:=hid (dec_ok h8.a (by simp [newC]) hs3 (SubL.fresh H7.out.a hx3) (check_one 1 4617315517961601024 4607182418800017408 (by omega) I5.out I1.out) (code_new 1 0 1 4617315517961601024 4607182418800017408) (n:=1) rfl)
 have HB8:=hid (HB7.out.trans (hb8.mono HB7.out.size))
 have H8:=hid h8
 have Q3':=hid ((hb8.block _ (Array.getElem?_eq_some_iff.1 Q3.out).1).trans Q3.out)
 have Q4':=hid ((hb8.block _ (Array.getElem?_eq_some_iff.1 Q4.out).1).trans Q4.out)
 clear h8 hb8 hx3 hs3
 go_wp2_with fail
 refine D3.out.mono ?_
 rintro e w9 ⟨rfl,c2,ow2',hC9,hF9,hn9⟩
 have E9:=hid (first_commit (by decide) rfl hn9)
 have H9:=hid (H8.out.step hC9 hF9)
 have HB9:=hid (HB8.out.trans ((H8.out.a.fr_below hF9).mono (by have:=H2.out.b.lt;have:=H2.out.a.lt;omega)))
 have Q39:=hid ((hF9.block _ (Array.getElem?_eq_some_iff.1 Q3'.out).1 Z3.out).trans Q3'.out)
 have Q49:=hid ((hF9.block _ (Array.getElem?_eq_some_iff.1 Q4'.out).1 Z4.out).trans Q4'.out)
 have Z39:=hid ((hF9.own _ (Array.getElem?_eq_some_iff.1 Q3'.out).1).trans Z3.out)
 have Z49:=hid ((hF9.own _ (Array.getElem?_eq_some_iff.1 Q4'.out).1).trans Z4.out)
 clear hC9 hF9 hn9 D3
 go_wp2_with fail
 refine (oneS_any 2 4618441417868443648 4607182418800017408 w9 (by omega) (by omega)).mono ?_
 rintro e w10 ⟨x4,rfl,hx4,hs4,hb10⟩
 have h10:=H9.out.below hb10
 have f9:=oneC_facts E9.out
 have D4:=hid (dec_no h10.a (by rw [f9.1,f9.2.1];decide) hs4 (SubL.fresh H9.out.a hx4) (code:=111) (by rw [E9.out,check_one 2 4618441417868443648 4607182418800017408 (by omega) I6.out I1.out];exact code_write 1 0 1 2 4617315517961601024 4618441417868443648 4607182418800017408 I1.out) (by decide))
 have HB10:=hid (HB9.out.trans (hb10.mono HB9.out.size))
 have H10:=hid h10
 have Q310:=hid ((hb10.block _ (Array.getElem?_eq_some_iff.1 Q39.out).1).trans Q39.out)
 have Q410:=hid ((hb10.block _ (Array.getElem?_eq_some_iff.1 Q49.out).1).trans Q49.out)
 clear h10 hb10 hx4 hs4 f9
 go_wp2_with fail
 refine D4.out.mono ?_
 rintro e w11 ⟨rfl,ow2'',hC11,hF11⟩
 have h11:=(H10.out.step hC11 hF11).b
 have q3:=(hF11.block _ (Array.getElem?_eq_some_iff.1 Q310.out).1 Z39.out).trans Q310.out
 have q4:=(hF11.block _ (Array.getElem?_eq_some_iff.1 Q410.out).1 Z49.out).trans Q410.out
 have HB11:=hid (HB10.out.trans ((H10.out.a.fr_below hF11).mono (by have:=H2.out.b.lt;have:=H2.out.a.lt;omega)))
 have hCt:=fun W (hb:Below w11.heap.size w11 W)=>count_any (h11.below hb)
 have hHz:=fun W (hb:Below w11.heap.size w11 W)=>horizon_any (h11.below hb)
 have hRc:=fun W (hb:Below w11.heap.size w11 W)=>recent_any (h11.below hb)
 rw [F4.out.2.2.1] at hCt
 rw [F4.out.2.2.2] at hHz
 rw [F4.out.1] at hRc
 obtain ⟨k0,k1,-,-⟩:=row2 q3
 obtain ⟨k2,k3,-,-⟩:=row2 q4
 have hV3:=(Array.getElem?_eq_some_iff.1 q3).1
 have hV4:=(Array.getElem?_eq_some_iff.1 q4).1
 have hb11:=HB11.out
 have hz11:=hb11.size
 clear hC11 hF11 D4 h11 q3 q4
 go_wp2_with (first|(go_at_call 14;(with_reducible refine (hCt _ (by exact below_auto)).mono ?_);rintro e w20 ⟨rfl,hb20⟩;refine mB hb20 ?_;intro hc20 hf20 hz20;intros)|(go_at_call 16;(with_reducible refine (hHz _ (by exact below_auto)).mono ?_);rintro e w21 ⟨rfl,hb21⟩;refine mB hb21 ?_;intro hc21 hf21 hz21;intros)|(go_at_call 24;(with_reducible refine (hRc _ (by exact below_auto)).mono ?_);rintro e w22 ⟨a22,c22,rfl,hb22⟩))
 go_ret
 exact ⟨rfl,by exact below_auto⟩
end Go.Proofs.YtfbachckdadhoaaGreat.C
