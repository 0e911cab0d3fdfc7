/- Decide: the walk (printed by py/certdec.py). -/
import Derived.Test.YtdeeoddacnealaaGreatMCJ
import Derived.Test.YtdeeoddacnealaaGreatCI
import Derived.Test.YtdeeoddacnealaaGreatMKE
import Derived.Test.YtdeeoddacnealaaGreatMCH
set_option linter.unusedVariables false
set_option linter.unusedSimpArgs false
namespace Go.Proofs.YtdeeoddacnealaaGreat.C
open Go.RowKit Fl

def DecRet (B T:Nat) (c:CL) (ow:Nat→Nat) (x:SubV) (w:World) (e:Ending) (w':World):Prop :=
 ∃ ow',Fr ow ow' w w'∧((codeD c x (K.SubV.check x)≠0∧e=.returned (.agg #[.int .i64 (codeD c x (K.SubV.check x)),.int .i64 0])∧CAt B T c ow' w') ∨
  (codeD c x (K.SubV.check x)=0∧e=.returned (.agg #[.int .i64 0,.int .i64 (c.count+1)])∧∃ (y:SubV) (a:Option Addr) (cap:Nat),SameS y x∧CAt B T { (c.commit y (decide (0<(lookD c x).least))) with ra:=a,rc:=cap } ow' w'))
theorem chk_zero {x:SubV} (h:K.SubV.check x=0):(x.rs.length≤16∧x.ss.length≤8∧x.ws.length≤16)∧0≤x.s2∧x.s2≤1099511627776:=by
 unfold K.SubV.check K.checkI at h
 cases hn:K.SubV.nb x
 ·rw [hn] at h;simp at h
 cases hm:K.SubV.mb x
 ·have:=K.nb_true hn
  exact ⟨K.mb_false hm,by omega,by omega⟩
 ·rw [hn,hm] at h;simp at h
theorem SubL.gr {ow:Nat→Nat} {x:SubV} {w w':World} {T:Nat} (h:SubL (fun k=>ow k=0) x w) (g:w.grownBy w' (some T)) (hT:ow T=1):SubL (fun k=>ow k=0) x w' :=
 h.kept (fun _ _ h=>h) fun k hk e=>g.block k hk fun e'=>by
  rw [Option.some.inj e',hT] at e
  cases e
theorem row2 {w:World} {b:Nat} {x0 x1:Value} {T:TypeId} (h:w.heap[b]? = some (.cells #[x0,x1] T (0,0))) :
  w.cell? ⟨b,0,none⟩=some x0∧w.cell? ⟨b,1,none⟩=some x1∧w.frozen? ⟨b,0,none⟩=false∧w.frozen? ⟨b,1,none⟩=false :=
 ⟨cell_row h 0,cell_row h 1,by simp [World.frozen?,h],by simp [World.frozen?,h]⟩
theorem sum_recs (c:CL) (r:RecV):(c.sum r).recs=c.recs∧(c.sum r).ra=c.ra∧(c.sum r).rc=c.rc∧(c.sum r).count=c.count:=by
 unfold CL.sum
 simp only
 split <;> exact ⟨rfl,rfl,rfl,rfl⟩

theorem sum_ra (c:CL) (r:RecV) (a:Option Addr) (k:Nat):({ c with ra:=a,rc:=k }:CL).sum r = { (c.sum r) with ra:=a,rc:=k }:=by
 unfold CL.sum sumS
 simp only
 split <;> rfl
theorem commit_no {c c1 c2:CL} {y:SubV} {out:Bool} {a:Option Addr} {k:Nat} (h1:c1 = { c with count:=c.count+1 }) (h2:c2 = { c1 with recs:=c1.recs++[⟨c1.count,y,out⟩],ra:=a,rc:=k }) (hk:¬c2.keep<(c2.recs.length:Int)):{ (c.commit y out) with ra:=a,rc:=k }=c2:=by
 subst h1
 subst h2
 unfold CL.commit
 simp only at hk ⊢
 rw [if_neg hk]
theorem commit_yes {c c1 c2:CL} {y:SubV} {out:Bool} {a:Option Addr} {k:Nat} (h1:c1 = { c with count:=c.count+1 }) (h2:c2 = { c1 with recs:=c1.recs++[⟨c1.count,y,out⟩],ra:=a,rc:=k }) (hk:c2.keep<(c2.recs.length:Int)):{ (c.commit y out) with ra:=a,rc:=k } = { (c2.sum (c2.recs[0]?.getD default)) with recs:=c2.recs.drop 1 }:=by
 subst h1
 subst h2
 unfold CL.commit
 simp only at hk ⊢
 rw [if_pos hk]
 have e:(c.recs++[(⟨c.count+1,y,out⟩:RecV)]).headD ⟨0,y,out⟩=(c.recs++[(⟨c.count+1,y,out⟩:RecV)])[0]?.getD default:=by cases c.recs <;> rfl
 rw [e]
 have h:=sum_ra { c with count:=c.count+1,recs:=c.recs++[⟨c.count+1,y,out⟩] } ((c.recs++[(⟨c.count+1,y,out⟩:RecV)])[0]?.getD default) a k
 simp only at h
 rw [h]
theorem out_of_box {B T V:Nat} {c c':CL} {ow ow':Nat→Nat} {w X W:World} (h:CAt B T c' ow' X) (f:Fr ow ow' w X) (g:X.grownBy W (some V)) (zV:ow' V=0) (hV:w.heap.size≤V):CAt B T c' ow' W∧Fr ow ow' w W :=
 ⟨h.keep g.size fun k hk h0=>g.block k hk fun e=>h0 (by rw [Option.some.inj e];exact zV),⟨g.os.trans f.os,g.tape.trans f.tape,g.output.trans f.output,Nat.le_trans f.size g.size,fun k hk h0=>(g.block k (Nat.lt_of_lt_of_le hk f.size) fun e=>by have:=Option.some.inj e;omega).trans (f.block k hk h0),f.own⟩⟩
theorem set2 {w:World} {g:Nat} {T:TypeId} {a0 a1:Value} (h:w.heap[g]? = some (.cells #[a0,a1] T (0,0))) (v0 v1:Value):w.grownBy ((w.setCell ⟨g,0,none⟩ v0).setCell ⟨g,1,none⟩ v1) (some g):=by
 obtain ⟨q,k⟩:=K.set1 (i:=0) h v0
 obtain ⟨q2,k2⟩:=K.set1 (i:=1) q v1
 exact k.trans k2

set_option maxHeartbeats 8000000 in
set_option maxRecDepth 100000 in
theorem decide_any {B T:Nat} {c:CL} {ow:Nat→Nat} {w:World} (h:CAt B T c ow w) (hkl:(c.recs.length:Int)≤c.keep) (x:SubV) (hx:SubL (fun k=>ow k=0) x w) :
  Calls Tryz.prog 14 #[.pointer (some ⟨T,0,none⟩),.agg #[.int .i64 x.s0,.int .i64 x.s1,.int .i64 x.s2,.slice x.ra x.rs.length x.rc,.slice x.sa x.ss.length x.sc,.slice x.wa x.ws.length x.wc]] w (DecRet B T c ow x w):=by
 have HC:=hid fun W (hb:Below w.heap.size w W)=>h.below hb
 have HX:=hid fun W (hb:Below w.heap.size w W)=>hx.at_.below hb
 have HSL:=hid fun W (hb:Below w.heap.size w W)=>(hx.kept (fun _ _ h=>h) fun k hk _=>hb.block k hk:SubL (fun k=>ow k=0) x W)
 have hT1:=h.hT
 have HOT:=hid hT1
 clear hT1
 have HCK:=hid fun W (hb:Below w.heap.size w W)=>K.check_any x W (hx.at_.below hb)
 have EARLY:=hid fun (W:World) (code:Int) (hb:Below w.heap.size w W) (hc:codeD c x (K.SubV.check x)=code∧code≠0)=>(show DecRet B T c ow x w (.returned (.agg #[.int .i64 code,.int .i64 0])) W from ⟨ow,Fr.of_below ow hb,.inl ⟨by rw [hc.1];exact hc.2,by rw [hc.1],h.below hb⟩⟩)
 have BOX:=hid fun W (hb:Below w.heap.size w W)=>row9 (h.below hb).box
 have hT:=h.lt.2
 have hcnt:=h.cnt
 have Z:=hid fun k (hk:w.heap.size≤k)=>Classical.byContradiction fun h0:¬ow k=0=>by have:=(h.low k h0).2;omega
 have HZ:=chk_zero (x:=x)
 generalize hchk:K.SubV.check x=chk at *
 have HD:=hid (show ∀ code,codeD c x chk=code→codeD c x chk=code from fun _ h=>h)
 have HCHK:=hid hchk
 clear h hx hchk
 go_enter Tryz.func14,Tryz.ntmps14
 go_upto_region 1 with fail
 generalize hW1:World.alloc _ _=w1
 have hA:Below w.heap.size w w1:=by rw [←hW1];exact below_auto
 have hz1:w.heap.size+1<w1.heap.size:=by rw [←hW1];simp
 have q0:w1.heap[w.heap.size]? = some (.cells #[.int .i64 x.s0,.int .i64 x.s1,.int .i64 x.s2,.slice x.ra x.rs.length x.rc,.slice x.sa x.ss.length x.sc,.slice x.wa x.ws.length x.wc] 41 (0,0)):=by rw [←hW1];exact (two_alloc w _ _).1
 have q1:w1.heap[w.heap.size+1]? = some (.cells #[.int .i64 0,.int .i64 0] 45 (0,0)):=by rw [←hW1];exact (two_alloc w _ _).2
 clear hW1
 obtain ⟨b0,b1,b2,b3,b4,b5⟩:=row6 q0
 have hz0:w.heap.size<w1.heap.size:=by omega
 have hK1:=HCK.out w1 hA
 go_upto_region 2 with (go_at_call 46;with_reducible refine mQ (hK1) ?_;intro w2 hb2 hc2 hf2 hz2;intros)
 have hA2:=hA.trans (hb2.mono (by omega))
 have q0:=(hb2.block _ hz0).trans q0
 have q1:=(hb2.block _ hz1).trans q1
 have hz2:w.heap.size+1<w2.heap.size:=by have:=hb2.size;omega
 clear hc2 hf2 hb2 b0 b1 b2 b3 b4 b5 hK1 hA hz1 hz0
 obtain ⟨b0,b1,b2,b3,b4,b5⟩:=row6 q0
 obtain ⟨v0,v1,f0,f1⟩:=row2 q1
 obtain ⟨-,-,k2,k3,-,-,-,-,-⟩:=BOX.out w2 hA2
 have hz0:w.heap.size<w2.heap.size:=by omega
 have hT2:T<w2.heap.size:=by omega
 by_cases hc0:chk=0
 rotate_left
 ·have hcb:(chk == 0)=false:=by simpa using hc0
  go_wp2_with fail
  exact bodyPost_ret (v:=.agg #[.int .i64 chk,.int .i64 0]) (by simp [results,Tryz.results14,go_sem, *]) rfl (EARLY.out _ chk (by exact below_auto) (by unfold codeD;rw [if_pos hc0];exact ⟨rfl,hc0⟩))
 subst hc0
 obtain ⟨hl,hs⟩:=HZ rfl
 have HL:=hid hl;have HS2:=hid hs
 clear HZ hl
 by_cases hc1:c.count=1099511627776
 ·rw [hc1] at k2
  go_wp2_with fail
  exact bodyPost_ret (v:=.agg #[.int .i64 3,.int .i64 0]) (by simp [results,Tryz.results14,go_sem, *]) rfl (EARLY.out _ 3 (by exact below_auto) (by unfold codeD;rw [if_neg (by simp),if_pos hc1];exact ⟨rfl,by decide⟩))
 have hb1:(c.count == 1099511627776)=false:=by simpa using hc1
 by_cases hc2:c.count<x.s2
 ·go_upto_region 6 with fail
  go_quiet (fail)
  go_wp2_with fail
  exact bodyPost_ret (v:=.agg #[.int .i64 113,.int .i64 0]) (by simp [results,Tryz.results14,go_sem, *]) rfl (EARLY.out _ 113 (by exact below_auto) (by unfold codeD;rw [if_neg (by simp),if_neg hc1,if_pos hc2];exact ⟨rfl,by decide⟩))
 by_cases hc3:x.s2<c.horizon
 ·go_upto_region 6 with fail
  go_quiet (fail)
  go_upto_region 8 with fail
  go_quiet (fail)
  go_wp2_with fail
  exact bodyPost_ret (v:=.agg #[.int .i64 110,.int .i64 0]) (by simp [results,Tryz.results14,go_sem, *]) rfl (EARLY.out _ 110 (by exact below_auto) (by unfold codeD;rw [if_neg (by simp),if_neg hc1,if_neg (by omega),if_pos hc3];exact ⟨rfl,by decide⟩))
 have hcd:codeD c x 0=(if (lookD c x).written=true then 111 else if (lookD c x).out=true∨(0<(lookD c x).least∧0<(lookD c x).most∧(lookD c x).least≤(lookD c x).most) then 112 else 0):=by
  unfold codeD
  rw [if_neg (by simp),if_neg hc1,if_neg (by omega),if_neg (by omega)]
 have HCD:=hid hcd
 have HB:=hid fun W (hb:Below w.heap.size w W)=>beside_any (HC.out W hb) x (HX.out W hb) hs
 clear hcd
 obtain ⟨lk,hlk⟩:∃ lk,lookD c x=lk:=⟨_,rfl⟩
 rw [hlk] at HCD HB
 have HLKD:=hid hlk
 clear hlk
 unfold lkV at HB
 obtain ⟨lw,lo,ll,lm⟩:=lk
 simp only at HCD HB
 go_upto_region 6 with fail
 go_quiet (fail)
 go_upto_region 8 with fail
 go_quiet (fail)
 go_upto_region 11 with (go_at_call 47;with_reducible refine mQ (HB.out _ (by exact below_auto)) ?_;intro w3 hb3 hc3 hf3 hz3;intros)
 generalize hW4:World.alloc w3 _=w4
 obtain ⟨L,hL⟩:∃ L,L=w3.heap.size:=⟨_,rfl⟩
 rw [←hL]
 have hw3:w.heap.size+1<w3.heap.size:=by omega
 have hb4:Below w3.heap.size w3 w4:=by rw [←hW4];exact below_auto
 have hA4:Below w.heap.size w w4:=hA2.trans ((show Below w2.heap.size w2 w3 by exact below_auto).mono (by omega) |>.trans (hb4.mono (by omega)))
 have hA24:Below w2.heap.size w2 w4:=(show Below w2.heap.size w2 w3 by exact below_auto).trans (hb4.mono (by omega))
 have q0:=(hA24.block _ hz0).trans q0
 have q1:=(hA24.block _ hz2).trans q1
 have ql:w4.heap[L]? = some (.cells #[.bool lw,.bool lo,.int .i64 ll,.int .i64 lm] 118 (0,0)):=by rw [←hW4,hL];exact heap_alloc_new w3 _
 have hLl:L<w4.heap.size:=(Array.getElem?_eq_some_iff.1 ql).1
 have hLz:w.heap.size+1<L:=by omega
 clear hW4 hL hb4 hb3 hc3 hf3 hz3 hA24 b0 b1 b2 b3 b4 b5 v0 v1 f0 f1 k2 k3 hz2 hT2 hz0 hA2 HB hw3
 have hz0:w.heap.size<w4.heap.size:=by omega
 have hz4:w.heap.size+1<w4.heap.size:=by omega
 have hT4:T<w4.heap.size:=by omega
 obtain ⟨b0,b1,b2,b3,b4,b5⟩:=row6 q0
 obtain ⟨v0,v1,f0,f1⟩:=row2 q1
 obtain ⟨l0,l1,l2,l3,-,-,-,-⟩:=row4 ql
 have EARLY2:=hid fun (W:World) (code:Int) (hb:Below w.heap.size w W) (hc:(if lw=true then (111:Int) else if lo=true∨(0<ll∧0<lm∧ll≤lm) then 112 else 0)=code∧code≠0)=>EARLY.out W code hb ⟨HCD.out.trans hc.1,hc.2⟩
 have HCW:=hid (HC.out w4 hA4)
 cases lw
 rotate_left
 ·go_wp2_with fail

  exact bodyPost_ret (v:=.agg #[.int .i64 111,.int .i64 0]) (by simp [results,Tryz.results14,go_sem, *]) rfl (EARLY2.out _ 111 (by exact below_auto) (by exact ⟨by simp,by decide⟩))
 obtain ⟨dg,hdg⟩:∃ dg:Bool,dg=(lo||(decide (0<ll) && decide (0<lm) && decide (ll≤lm))):=⟨_,rfl⟩
 have HDG:=hid hdg
 clear hdg
 go_upto_region 13 with fail
 go_cut [46] from 46 to 65 (fun t46 wc=>t46=.bool dg∧wc=w4)
 case first =>
  cases lo
  ·by_cases h1:0<ll
   ·by_cases h2:0<lm
    ·by_cases h3:ll≤lm
     ·go_wp2_with fail
      go_meet
      case rel=>exact ⟨by rw [HDG.out];simp [h1,h2,h3],rfl⟩
     ·go_wp2_with fail
      go_meet
      case rel=>exact ⟨by rw [HDG.out];simp [h1,h2];omega,rfl⟩
    ·go_wp2_with fail
     go_meet
     case rel=>exact ⟨by rw [HDG.out];simp [h1];omega,rfl⟩
   ·go_wp2_with fail
    go_meet
    case rel=>exact ⟨by rw [HDG.out];simp;omega,rfl⟩
  ·go_wp2_with fail
   go_meet
   case rel=>exact ⟨by rw [HDG.out];simp,rfl⟩
 case rest =>
  obtain ⟨rfl,hwc⟩:=hcut
  rw [hwc]
  clear hwc
  have hdi:(lo=true∨(0<ll∧0<lm∧ll≤lm))↔dg=true:=by rw [HDG.out];simp [and_assoc]
  cases dg
  rotate_left
  ·have HDI:=hid (hdi.2 rfl)
   clear hdi
   go_wp2_with fail
   exact bodyPost_ret (v:=.agg #[.int .i64 112,.int .i64 0]) (by simp [results,Tryz.results14,go_sem, *]) rfl (EARLY2.out _ 112 (by exact below_auto) (by rw [if_neg (by decide),if_pos HDI.out];exact ⟨rfl,by decide⟩))
  have hcd0:codeD c x 0=0:=by rw [HCD.out,if_neg (by decide),if_neg (fun h=>by have:=hdi.1 h;cases this)]
  have HC0:=hid hcd0
  clear hcd0 hdi HDG EARLY EARLY2 HCD l0 l1 l3
  have hc9:c.count+1≤1099511627776:=by omega
  have hinc:=HCW.out.inc hc9
  have fT2:w4.frozen? ⟨T,2,none⟩=false:=by simp [World.frozen?,HCW.out.box]
  obtain ⟨-,-,k2,-,-,-,-,-,-⟩:=BOX.out w4 hA4
  obtain ⟨-,gT⟩:=K.set1 (i:=2) HCW.out.box (.int .i64 (c.count+1))
  have nT:∀ k,w.heap.size≤k→k≠T:=fun k hk e=>by omega
  have hsz5:=gT.size
  have HQ0:=hid ((gT.block _ hz0 fun e=>nT _ (Nat.le_refl _) (Option.some.inj e)).trans q0)
  have HQ1:=hid ((gT.block _ hz4 fun e=>nT _ (by omega) (Option.some.inj e)).trans q1)
  have HQL:=hid ((gT.block _ hLl fun e=>nT _ (by omega) (Option.some.inj e)).trans ql)
  have HBT:=hid (show Below T w4 (w4.setCell ⟨T,2,none⟩ (.int .i64 (c.count+1))) from grown_below gT (Nat.le_refl _) (by omega))
  have HXA:=hid (HSL.out w4 hA4)
  have HGT:=hid gT
  have HINC:=hid hinc
  clear hinc gT q0 q1 ql nT hsz5
  go_upto_region 16 with fail
  generalize hW5:World.setCell w4 _ _=w5
  rw [hW5] at HQ0 HQ1 HQL HBT HINC HGT
  have HX5:=hid (fun X (hb:Below w5.heap.size w5 X)=>(show x.At X from (HXA.out.gr HGT.out HOT.out).at_.below hb))
  clear hW5 fT2 b0 b1 b2 b3 b4 b5 v0 v1 f0 f1 l2 k2
  obtain ⟨c1,hc1'⟩:∃ c1:CL,c1 = { c with count:=c.count+1 }:=⟨_,rfl⟩
  have HC1:=hid hc1'
  have h1:=HINC.out.1
  have F1:=HINC.out.2
  rw [←hc1'] at h1
  obtain ⟨Y0,hY0⟩:∃ Y:World,Y = { w5 with drawn:=w5.drawn+1 }:=⟨_,rfl⟩
  have hb0:Below w5.heap.size w5 Y0:=by rw [hY0];exact Below.drew (Below.refl _ _)
  have z0:Y0.heap.size=w5.heap.size:=by rw [hY0]
  have hB5:w4.heap.size≤w5.heap.size:=HBT.out.size
  have HY0:=hid hY0
  have hC0':CAt B T c1 ow Y0∧0<c1.count∧(c1.recs.length:Int)≤c1.keep:=⟨h1.below hb0,by rw [hc1'];simp only;omega,by rw [hc1'];exact hkl⟩
  have HC0':=hid hC0'
  clear hc1'
  have HXw:=hid (fun X (hb:Below Y0.heap.size Y0 X)=>HX5.out X ((hb0.trans (hb.mono (by omega)))))
  have HT0:=hid (show T<Y0.heap.size by omega)
  have H4:=hid (row9 hC0'.1.box).2.2.2.2.1
  have H2:=hid (row9 hC0'.1.box).2.2.1
  have HS0:=hid (show w.heap.size<Y0.heap.size∧Y0.heap[w.heap.size]? = some (.cells #[.int .i64 x.s0,.int .i64 x.s1,.int .i64 x.s2,.slice x.ra x.rs.length x.rc,.slice x.sa x.ss.length x.sc,.slice x.wa x.ws.length x.wc] 41 (0,0)) from ⟨by omega,(hb0.block _ (by omega)).trans HQ0.out⟩)
  have HLK:=hid (show L<Y0.heap.size∧Y0.cell? ⟨L,2,none⟩=some (.int .i64 ll) from ⟨by omega,(row4 ((hb0.block _ (by omega)).trans HQL.out)).2.2.1⟩)

  have HV0:=hid (show w.heap.size+1<Y0.heap.size∧Y0.heap[w.heap.size+1]? = some (.cells #[.int .i64 0,.int .i64 0] 45 (0,0)) from ⟨by omega,(hb0.block _ (by omega)).trans HQ1.out⟩)
  have HF0:=hid (((Fr.of_below ow hA4).trans F1).trans (Fr.of_below ow hb0))
  clear hY0 z0 hb0 hC0' h1
  refine wp_region_chainV [(0,fun _=>.pointer (some ⟨T,0,none⟩)),(0,fun _=>.pointer (some ⟨T,0,none⟩)),(0,fun _=>.pointer (some ⟨T,0,none⟩)),(0,fun _=>.pointer (some ⟨T,4,none⟩)),(0,fun _=>.slice c1.ra c1.recs.length c1.rc),(0,fun _=>.pointer (some ⟨T,0,none⟩)),(0,fun _=>.pointer (some ⟨T,0,none⟩)),(0,fun _=>.pointer (some ⟨T,2,none⟩)),(0,fun _=>.int .i64 c1.count),(0,fun _=>.agg #[.int .i64 x.s0,.int .i64 x.s1,.int .i64 x.s2,.slice x.ra x.rs.length x.rc,.slice x.sa x.ss.length x.sc,.slice x.wa x.ws.length x.wc]),(1,fun ms=>ms.getD 0 undef),(1,fun ms=>.agg (#[.int .i64 c1.count]++(ms.getD 0 undef).cells)),(0,fun _=>.pointer (some ⟨L,2,none⟩)),(0,fun _=>.int .i64 ll),(0,fun _=>.bool (decide (0<ll))),(1,fun ms=>.agg (#[.int .i64 c1.count]++(ms.getD 0 undef).cells++#[.bool (decide (0<ll))])),(2,fun ms=>ms.getD 1 undef),(3,fun ms=>ms.getD 2 undef),(0,fun _=>.pointer (some ⟨T,0,none⟩)),(0,fun _=>.pointer (some ⟨T,4,none⟩)),(4,fun ms=>ms.getD 3 undef)] (PushR w Y0 B T c1 ow x (decide (0<ll))) (fun _ _=>False) [10,16,17,20] rfl (by kernel_rfl) (by kernel_rfl) (by kernel_rfl) (by decide) (by decide) ⟨HY0.out.symm,HC0'.out⟩ ?_ ?_ ?_
  ·simp only [StepsV,List.nil_append,List.cons_append,Nat.zero_add,Nat.reduceAdd]
   refine ⟨?p0,?p1,?p2,?p3,?l4,?p5,?p6,?p7,?l8,?l9,?cl,?b11,?p12,?l13,?p14,?b15,?bs,?ap,?p18,?p19,?st,trivial⟩
   case p0 =>
    intro ms X g1 g2 hx
    refine mM ?_
    generalize hR:(fun v w'=>(_→v=_)∧_)=RR
    have HR:=hid hR
    have HXX:=hid hx
    clear hR g1 g2 hx
    try refine mV ?_
    go_wp2_with fail
    have hR:=HR.out
    subst hR
    exact ⟨rfl,fun _=>rfl,HXX.out⟩
   case p1 =>
    intro ms X g1 g2 hx
    refine mM ?_
    generalize hR:(fun v w'=>(_→v=_)∧_)=RR
    have HR:=hid hR
    have HXX:=hid hx
    clear hR g1 g2 hx
    try refine mV ?_
    go_wp2_with fail
    have hR:=HR.out
    subst hR
    exact ⟨rfl,fun _=>rfl,HXX.out⟩
   case p2 =>
    intro ms X g1 g2 hx
    refine mM ?_
    generalize hR:(fun v w'=>(_→v=_)∧_)=RR
    have HR:=hid hR
    have HXX:=hid hx
    clear hR g1 g2 hx
    try refine mV ?_
    go_wp2_with fail
    have hR:=HR.out
    subst hR
    exact ⟨rfl,fun _=>rfl,HXX.out⟩
   case p3 =>
    intro ms X g1 g2 hx
    refine mM ?_
    generalize hR:(fun v w'=>(_→v=_)∧_)=RR
    have HR:=hid hR
    have HXX:=hid hx
    clear hR g1 g2 hx
    try refine mV ?_
    go_wp2_with fail
    have hR:=HR.out
    subst hR
    exact ⟨rfl,fun _=>rfl,HXX.out⟩
   case l4 =>
    intro ms X g1 g2 hx
    have hbx:=PushR.early (Nat.le_trans g2 (by decide +kernel)) hx
    have k4:=(hbx.cell (p:=⟨T,4,none⟩) HT0.out).trans H4.out
    refine mM ?_
    generalize hR:(fun v w'=>(_→v=_)∧_)=RR
    have HR:=hid hR
    have HXX:=hid hx
    clear hR g1 g2 hx hbx
    try refine mV ?_
    go_wp2_with fail
    have hR:=HR.out
    subst hR
    exact ⟨rfl,fun _=>rfl,HXX.out⟩
   case p5 =>
    intro ms X g1 g2 hx
    refine mM ?_
    generalize hR:(fun v w'=>(_→v=_)∧_)=RR
    have HR:=hid hR
    have HXX:=hid hx
    clear hR g1 g2 hx
    try refine mV ?_
    go_wp2_with fail
    have hR:=HR.out
    subst hR
    exact ⟨rfl,fun _=>rfl,HXX.out⟩
   case p6 =>
    intro ms X g1 g2 hx
    refine mM ?_
    generalize hR:(fun v w'=>(_→v=_)∧_)=RR
    have HR:=hid hR
    have HXX:=hid hx
    clear hR g1 g2 hx
    try refine mV ?_
    go_wp2_with fail
    have hR:=HR.out
    subst hR
    exact ⟨rfl,fun _=>rfl,HXX.out⟩
   case p7 =>
    intro ms X g1 g2 hx
    refine mM ?_
    generalize hR:(fun v w'=>(_→v=_)∧_)=RR
    have HR:=hid hR
    have HXX:=hid hx
    clear hR g1 g2 hx
    try refine mV ?_
    go_wp2_with fail
    have hR:=HR.out
    subst hR
    exact ⟨rfl,fun _=>rfl,HXX.out⟩
   case l8 =>
    intro ms X g1 g2 hx
    have hbx:=PushR.early (Nat.le_trans g2 (by decide +kernel)) hx
    have k2:=(hbx.cell (p:=⟨T,2,none⟩) HT0.out).trans H2.out
    refine mM ?_
    generalize hR:(fun v w'=>(_→v=_)∧_)=RR
    have HR:=hid hR
    have HXX:=hid hx
    clear hR g1 g2 hx hbx
    try refine mV ?_
    go_wp2_with fail
    have hR:=HR.out
    subst hR
    exact ⟨rfl,fun _=>rfl,HXX.out⟩
   case l9 =>
    intro ms X g1 g2 hx
    have hbx:=PushR.early (Nat.le_trans g2 (by decide +kernel)) hx
    obtain ⟨b0,b1,b2,b3,b4,b5⟩:=row6 ((hbx.block _ HS0.out.1).trans HS0.out.2)
    refine mM ?_
    generalize hR:(fun v w'=>(_→v=_)∧_)=RR
    have HR:=hid hR
    have HXX:=hid hx
    clear hR g1 g2 hx hbx
    try refine mV ?_
    go_wp2_with fail
    have hR:=HR.out
    subst hR
    exact ⟨rfl,fun _=>rfl,HXX.out⟩
   case cl =>
    intro ms X g1 g2 hx
    have hl:ms.length=0:=Nat.le_antisymm (Nat.le_trans g2 (by decide +kernel)) (Nat.le_trans (by decide +kernel) g1)
    obtain rfl:=P.ls0 hl
    obtain ⟨e,hC⟩:=hx
    obtain rfl:Y0=X:=e.symm
    refine mM ?_
    generalize hR:(fun v w'=>(_→v=_)∧_)=RR
    have HR:=hid hR
    clear hR g1 g2 hl
    refine mV ?_
    have HC:=hid (clone_any x Y0 (HXw.out Y0 (Below.refl _ _)) HL.out.1 HL.out.2.1 HL.out.2.2)
    go_wp2_with fail
    refine HC.out.mono ?_
    rintro e X2 ⟨y,rfl,hy,hss,hb⟩
    have HE:Hid (PushR w Y0 B T c1 ow x (decide (0<ll)) [.agg #[.int .i64 y.s0,.int .i64 y.s1,.int .i64 y.s2,.slice y.ra y.rs.length y.rc,.slice y.sa y.ss.length y.sc,.slice y.wa y.ws.length y.wc]] X2):=hid (⟨y,rfl,hy,hss,hb,hC⟩)
    clear HC
    go_wp2_with fail
    have hR:=HR.out
    subst hR
    exact ⟨rfl,fun _=>rfl,HE.out⟩
   case b11 =>
    intro ms X g1 g2 hx
    have hl1:ms.length=1:=Nat.le_antisymm (Nat.le_trans g2 (by decide +kernel)) (Nat.le_trans (by decide +kernel) g1)
    obtain ⟨v0,rfl⟩:=P.ls1 hl1
    have hx':=hx
    obtain ⟨y,e,hy,hs,hb,hC⟩:=hx'
    subst e
    refine mM ?_
    generalize hR:(fun v w'=>(_→v=_)∧_)=RR
    have HR:=hid hR
    have HXX:=hid hx
    clear hR g1 g2 hx hy hs hb hC hl1
    try refine mV ?_
    go_wp2_with fail
    have hR:=HR.out
    subst hR
    exact ⟨rfl,fun _=>rfl,HXX.out⟩
   case p12 =>
    intro ms X g1 g2 hx
    refine mM ?_
    generalize hR:(fun v w'=>(_→v=_)∧_)=RR
    have HR:=hid hR
    have HXX:=hid hx
    clear hR g1 g2 hx
    try refine mV ?_
    go_wp2_with fail
    have hR:=HR.out
    subst hR
    exact ⟨rfl,fun _=>rfl,HXX.out⟩
   case l13 =>
    intro ms X g1 g2 hx
    have hbx:=PushR.early (Nat.le_trans g2 (by decide +kernel)) hx
    have k13:=(hbx.cell (p:=⟨L,2,none⟩) HLK.out.1).trans HLK.out.2
    refine mM ?_
    generalize hR:(fun v w'=>(_→v=_)∧_)=RR
    have HR:=hid hR
    have HXX:=hid hx
    clear hR g1 g2 hx hbx
    try refine mV ?_
    go_wp2_with fail
    have hR:=HR.out
    subst hR
    exact ⟨rfl,fun _=>rfl,HXX.out⟩
   case p14 =>
    intro ms X g1 g2 hx
    refine mM ?_
    generalize hR:(fun v w'=>(_→v=_)∧_)=RR
    have HR:=hid hR
    have HXX:=hid hx
    clear hR g1 g2 hx
    try refine mV ?_
    go_wp2_with fail
    have hR:=HR.out
    subst hR
    exact ⟨rfl,fun _=>rfl,HXX.out⟩
   case b15 =>
    intro ms X g1 g2 hx
    have hl1:ms.length=1:=Nat.le_antisymm (Nat.le_trans g2 (by decide +kernel)) (Nat.le_trans (by decide +kernel) g1)
    obtain ⟨v0,rfl⟩:=P.ls1 hl1
    have hx':=hx
    obtain ⟨y,e,hy,hs,hb,hC⟩:=hx'
    subst e
    refine mM ?_
    generalize hR:(fun v w'=>(_→v=_)∧_)=RR
    have HR:=hid hR
    have HXX:=hid hx
    clear hR g1 g2 hx hy hs hb hC hl1
    try refine mV ?_
    go_wp2_with fail
    have hR:=HR.out
    subst hR
    exact ⟨rfl,fun _=>rfl,HXX.out⟩
   case bs =>
    intro ms X g1 g2 hx
    have hlk:ms.length=1:=Nat.le_antisymm (Nat.le_trans g2 (by decide +kernel)) (Nat.le_trans (by decide +kernel) g1)
    obtain ⟨v0,rfl⟩:=P.ls1 hlk
    obtain ⟨y,rfl,hy,hs,hb,hC⟩:=hx
    refine mM ?_
    generalize hR:(fun v w'=>(_→v=_)∧_)=RR
    have HR2:=hid hR
    clear hR g1 g2 hlk
    refine mV ?_
    have HE:Hid (PushR w Y0 B T c1 ow x (decide (0<ll)) [.agg #[.int .i64 y.s0,.int .i64 y.s1,.int .i64 y.s2,.slice y.ra y.rs.length y.rc,.slice y.sa y.ss.length y.sc,.slice y.wa y.ws.length y.wc],.slice (some ⟨X.heap.size,0,none⟩) 1 1] (X.alloc (.cells #[.int .i64 c1.count,.int .i64 y.s0,.int .i64 y.s1,.int .i64 y.s2,.slice y.ra y.rs.length y.rc,.slice y.sa y.ss.length y.sc,.slice y.wa y.ws.length y.wc,.bool (decide (0<ll))] 122))):=hid (⟨y,X.heap.size,rfl,rfl,X,rfl,rfl,hy,hs,hb,hC⟩)
    clear hy hs hb hC
    go_wp2_with fail
    have hR:=HR2.out
    subst hR
    exact ⟨rfl,fun _=>rfl,HE.out⟩
   case ap =>
    intro ms X g1 g2 hx
    have hlk:ms.length=2:=Nat.le_antisymm (Nat.le_trans g2 (by decide +kernel)) (Nat.le_trans (by decide +kernel) g1)
    obtain ⟨v0,v1,rfl⟩:=P.ls2 hlk
    obtain ⟨y,G,rfl,rfl,X1,rfl,rfl,hy,hs,hb,hC⟩:=hx
    obtain ⟨a',c',X3,hrun,hfin⟩:=push_run hC hb hy hs HL.out (decide (0<ll))
    have HRUN:=hid hrun
    refine mM ?_
    generalize hR:(fun v w'=>(_→v=_)∧_)=RR
    have HR2:=hid hR
    clear hR g1 g2 hlk
    refine mV ?_
    have HE:Hid (PushR w Y0 B T c1 ow x (decide (0<ll)) [.agg #[.int .i64 y.s0,.int .i64 y.s1,.int .i64 y.s2,.slice y.ra y.rs.length y.rc,.slice y.sa y.ss.length y.sc,.slice y.wa y.ws.length y.wc],.slice (some ⟨X1.heap.size,0,none⟩) 1 1,.slice a' (c1.recs.length+1) c'] (X3)):=hid (⟨y,a',c',rfl,hs,hfin.1,hfin.2⟩)
    clear hy hs hb hC hfin hrun
    go_wp2_with (at_builtin;refine Lib.wpList_append_run _ rfl _ _ _ _ rfl _ _ rfl rfl _ _ (HRUN.out _) ?_)
    have hR:=HR2.out
    subst hR
    exact ⟨rfl,fun _=>rfl,HE.out⟩
   case p18 =>
    intro ms X g1 g2 hx
    refine mM ?_
    generalize hR:(fun v w'=>(_→v=_)∧_)=RR
    have HR:=hid hR
    have HXX:=hid hx
    clear hR g1 g2 hx
    try refine mV ?_
    go_wp2_with fail
    have hR:=HR.out
    subst hR
    exact ⟨rfl,fun _=>rfl,HXX.out⟩
   case p19 =>
    intro ms X g1 g2 hx
    refine mM ?_
    generalize hR:(fun v w'=>(_→v=_)∧_)=RR
    have HR:=hid hR
    have HXX:=hid hx
    clear hR g1 g2 hx
    try refine mV ?_
    go_wp2_with fail
    have hR:=HR.out
    subst hR
    exact ⟨rfl,fun _=>rfl,HXX.out⟩
   case st =>
    intro ms X g1 g2 hx
    have hlk:ms.length=3:=Nat.le_antisymm (Nat.le_trans g2 (by decide +kernel)) (Nat.le_trans (by decide +kernel) g1)
    obtain ⟨v0,v1,v2,rfl⟩:=P.ls3 hlk
    obtain ⟨y,a',c',rfl,hs,hT,hfin⟩:=hx
    obtain ⟨k0,k1,k2,k3,k4,-⟩:=row9 hT
    have f4:X.frozen? ⟨T,4,none⟩=false:=by simp [World.frozen?,hT]
    have hTX:=(Array.getElem?_eq_some_iff.1 hT).1
    refine mM ?_
    generalize hR:(fun v w'=>(_→v=_)∧_)=RR
    have HR2:=hid hR
    clear hR g1 g2 hlk
    refine mV ?_
    have HE:Hid (PushR w Y0 B T c1 ow x (decide (0<ll)) [v0,v1,.slice a' (c1.recs.length+1) c',undef] (X.setCell ⟨T,4,none⟩ (.slice a' (c1.recs.length+1) c'))):=hid (⟨y,a',c',hs,hfin⟩)
    clear hs hfin hT
    go_wp2_with fail
    have hR:=HR2.out
    subst hR
    exact ⟨rfl,fun h=>absurd rfl h,HE.out⟩
  ·intro ms X hl hx
   obtain ⟨v0,v1,v2,v3,rfl⟩:=P.ls4 hl
   obtain ⟨y,a',c',hs,ow2,hC2,hF2⟩:=hx
   refine mV ?_
   clear hl
   generalize Value.cells v0=vcs
   obtain ⟨c2,hc2'⟩:∃ c2:CL,c2 = { c1 with recs:=c1.recs++[⟨c1.count,y,decide (0<ll)⟩],ra:=a',rc:=c' }:=⟨_,rfl⟩
   rw [←hc2'] at hC2
   have HC2:=hid hc2'
   have hn2:c2.recs.length=c1.recs.length+1:=by rw [hc2'];simp
   have hn1:c1.recs.length=c.recs.length:=by rw [HC1.out]
   have hcount:c2.count=c.count+1:=by rw [hc2',HC1.out]
   have HFX:=hid (HF0.out.trans hF2)
   have zV:ow2 (w.heap.size+1)=0:=(hF2.own _ HV0.out.1).trans (Z.out _ (by omega))
   have qV:=(hF2.block _ HV0.out.1 (Z.out _ (by omega))).trans HV0.out.2
   have hVl:=(Array.getElem?_eq_some_iff.1 qV).1
   obtain ⟨k0,-,k2,-,k4,-⟩:=row9 hC2.box
   have hT2:=hC2.lt.2
   have HCB:=hid fun W (hb:Below X.heap.size X W)=>hC2.below hb
   have HQV:=hid qV
   have HSY:=hid hs
   have HCN:=hid hcount
   obtain ⟨v0,v1,f0,f1⟩:=row2 qV
   clear hc2' hs hF2 qV
   rw [hcount] at k2
   by_cases hk:c2.keep<(c2.recs.length:Int)
   rotate_left
   ·have hfin:∀ W,(∃ X':World,Below X.heap.size X X'∧X'.heap[w.heap.size+1]? = some (.cells #[.int .i64 0,.int .i64 0] 45 (0,0))∧X'.grownBy W (some (w.heap.size+1)))→DecRet B T c ow x w (.returned (.agg #[.int .i64 0,.int .i64 (c.count+1)])) W:=fun W ⟨X',hb,_,g⟩=>by
     have ho:=out_of_box (c:=c) (HCB.out X' hb) (HFX.out.trans (Fr.of_below ow2 hb)) g zV (by omega)
     exact ⟨ow2,ho.2,.inr ⟨by rw [HCHK.out];exact HC0.out,rfl,y,a',c',HSY.out,by rw [HLKD.out];simp only;rw [commit_no HC1.out HC2.out hk];exact ho.1⟩⟩
    have HFIN:=hid hfin
    clear hfin hC2
    go_upto_region 17 with fail
    go_quiet (fail)
    go_wp2_with fail
    have hbd:=fun n=>below_drewN' (Below.refl X.heap.size X) n
    exact bodyPost_ret (v:=.agg #[.int .i64 0,.int .i64 (c.count+1)]) (by simp [results,Tryz.results14,go_sem, *]) rfl (HFIN.out _ ⟨_,hbd _,((hbd _).block _ hVl).trans HQV.out,set2 (((hbd _).block _ hVl).trans HQV.out) _ _⟩)
   ·obtain ⟨g,hra,hg,hcs⟩:=rec_get hC2.row 0 (by omega)
    obtain ⟨n,hn⟩:∃ n,c2.recs.length=n+1:=⟨c1.recs.length,hn2⟩
    have hmem:c2.recs[0]?.getD default∈c2.recs:=List.mem_of_getElem? (rec_some (rs:=c2.recs) (k:=0) (by omega))
    have HCM:=hid fun (c3:CL) (W:World×(Nat→Nat)) (e:c3=(c2.sum (c2.recs[0]?.getD default))) (hC:CAt B T { c3 with recs:=c3.recs.drop 1 } W.2 W.1)=>(show CAt B T { (c.commit y (decide (0<ll))) with ra:=a',rc:=c' } W.2 W.1 from by rw [commit_yes HC1.out HC2.out hk,←e];have:=(sum_recs c2 (c2.recs[0]?.getD default)).1;rw [←e] at this;rw [←this];exact hC)
    have HNX:=hid fun W (hb:Below X.heap.size X W)=>(show W.heap[w.heap.size+1]? = some (.cells #[.int .i64 0,.int .i64 0] 45 (0,0)) from (hb.block _ hVl).trans HQV.out)
    obtain ⟨r0,hr0⟩:∃ r,c2.recs[0]?.getD default=r:=⟨_,rfl⟩
    rw [hr0] at hcs hmem HCM
    have HSUM:=hid fun W (hb:Below X.heap.size X W)=>sum_any (HCB.out W hb) r0 hmem
    have hsr:=sum_recs c2 r0
    have HSR:=hid hsr
    have d0:=hcs 0 _ rfl
    have d1:=hcs 1 _ rfl
    have d2:=hcs 2 _ rfl
    have d3:=hcs 3 _ rfl
    have d4:=hcs 4 _ rfl
    have d5:=hcs 5 _ rfl
    have d6:=hcs 6 _ rfl
    have d7:=hcs 7 _ rfl
    simp only [Nat.zero_mul,Nat.zero_add] at d0 d1 d2 d3 d4 d5 d6 d7
    have hra':a'=some ⟨g,0,none⟩:=by have e:=HC2.out;rw [e] at hra;exact hra
    have HG:=hid hra
    rw [hra,hn] at k4
    have HN:=hid hn
    have HK:=hid hk
    have h01:(0:Int)<(n:Int)+1:=by omega
    rw [hn] at hk
    clear hcs hr0 hmem hsr hra' hn2 hn1 hC2
    go_upto_region 17 with fail
    go_quiet (fail)
    go_upto_region 19 with (go_at_call 49;(with_reducible refine (HSUM.out _ (by exact below_auto)).mono ?_);rintro e w7 ⟨rfl,ow3,hC3,hF3⟩)
    obtain ⟨c3,hc3⟩:∃ c3,c3=c2.sum r0:=⟨_,rfl⟩
    rw [←hc3] at hC3
    obtain ⟨e1,e2,e3,e4⟩:=HSR.out
    rw [←hc3] at e1 e2 e3 e4
    have HC3:=hid hc3
    have E4:=hid e4
    have hxl:=hF3.size
    have zV3:ow3 (w.heap.size+1)=0:=(hF3.own _ (by simpa using hVl)).trans zV
    have qV7:=(hF3.block _ (by simpa using hVl) zV).trans (HNX.out _ (below_drewN' (Below.refl _ _) _))
    have hF7:=hid ((HFX.out.trans (Fr.of_below ow2 (below_drewN' (Below.refl X.heap.size X) _))).trans hF3)
    have hra3:c3.ra=some ⟨g,0,none⟩:=e2.trans HG.out
    have hn3:c3.recs.length=n+1:=by rw [e1];exact HN.out
    obtain ⟨-,-,-,-,k4,-⟩:=row9 hC3.box
    rw [hra3,hn3] at k4
    have own7:=hC3.row
    rw [hra3,hn3] at own7
    have hkp:=(HCB.out X (Below.refl _ _)).kp
    have hKK:=HK.out
    have hNN:=HN.out
    have DEL:=hid (del_any hn3 (by omega) (by omega) own7)
    have hTg:g≠T:=(hC3.hrow g (by rw [hra3];rfl)).2
    have hT7:=hC3.lt.2
    have TT:=hid fun W (hg:w7.grownBy W (some g))=>(show W.cell? ⟨T,4,none⟩=some (.slice (some ⟨g,0,none⟩) (n+1) c3.rc)∧W.frozen? ⟨T,4,none⟩=false∧T<W.heap.size from by
     have hb:=(hg.block T hT7 fun e=>hTg (Option.some.inj e).symm).trans hC3.box
     refine ⟨?_,by simp [World.frozen?,hb],(Array.getElem?_eq_some_iff.1 hb).1⟩
     have:=cell_row hb 4
     rw [this]
     show some (Value.slice c3.ra c3.recs.length c3.rc)=_
     rw [hra3,hn3])
    have POP:=hid fun W (hg:w7.grownBy W (some g)) ho=>hC3.pop hra3 hn3 hg (w1:=W) ho
    have ZV3:=hid zV3;have QV7:=hid qV7
    clear hc3 e1 e2 e3 e4 hxl zV3 qV7 hra3 hn3 own7 hkp hKK hNN hTg hC3 hF3 HCB HSUM f0 f1 v0 v1 k0 k2 d0 d1 d2 d3 d4 d5 d6 d7 hk hg h01
    go_upto_region 20 with (go_at_call 50;(with_reducible refine DEL.out.mono ?_);rintro e w8 ⟨rfl,ho8,g8⟩;obtain ⟨c84,f84,t84⟩:=TT.out w8 g8)
    simp only [Nat.add_sub_cancel] at ho8 ⊢
    obtain ⟨ow4,hC4,hF4⟩:=POP.out w8 g8 ho8
    generalize hW9:World.setCell w8 _ _=w9
    rw [hW9] at hC4 hF4
    clear hW9 c84 f84 t84 g8 ho8
    have hV7:=(Array.getElem?_eq_some_iff.1 QV7.out).1
    have zV4:ow4 (w.heap.size+1)=0:=(hF4.own _ hV7).trans ZV3.out
    have qV9:=(hF4.block _ hV7 ZV3.out).trans QV7.out
    obtain ⟨v0,v1,f0,f1⟩:=row2 qV9
    obtain ⟨-,-,k2',-⟩:=row9 hC4.box
    have k2:w9.cell? ⟨T,2,none⟩=some (.int .i64 (c.count+1)):=by rw [k2'];show some (Value.int .i64 c3.count)=_;rw [E4.out,HCN.out]
    have hT9:=hC4.lt.2
    have hV9:=(Array.getElem?_eq_some_iff.1 qV9).1
    have hfin:∀ W,w9.grownBy W (some (w.heap.size+1))→DecRet B T c ow x w (.returned (.agg #[.int .i64 0,.int .i64 (c.count+1)])) W:=fun W hg=>by
     have ho:=out_of_box (c:=c) hC4 (hF7.out.trans hF4) hg zV4 (by omega)
     exact ⟨ow4,ho.2,.inr ⟨by rw [HCHK.out];exact HC0.out,rfl,y,a',c',HSY.out,by rw [HLKD.out];exact HCM.out c3 (W,ow4) HC3.out ho.1⟩⟩
    have HFIN:=hid hfin
    have HQ9:=hid qV9
    clear hfin hC4 hF4 qV9 zV4 k4 k2'
    go_wp2_with fail
    exact bodyPost_ret (v:=.agg #[.int .i64 0,.int .i64 (c.count+1)]) (by simp [results,Tryz.results14,go_sem, *]) rfl (HFIN.out _ (set2 HQ9.out _ _))
  ·exact fun _ _ _ _ hx=>hx.elim

end Go.Proofs.YtdeeoddacnealaaGreat.C