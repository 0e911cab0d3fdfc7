/- Several texts as one: VU VW VD VE VF VO VS. -/
import Derived.Test.YtdeeoddacnealaaGreatQ0
import Derived.Test.YtdeeoddacnealaaGreatMV
import Derived.Test.YtdeeoddacnealaaGreatMNL
import Derived.StillTailTactics
import Derived.Test.YtdeeoddacnealaaGreatMR
set_option linter.unusedVariables false
set_option linter.unusedSimpArgs false
namespace Go.Proofs.YtdeeoddacnealaaGreat
open Go.RowKit Fl

def atI (its:List ItV) (kb:Nat):Int:=if plcB its kb=true then (its[plcI its kb]?.getD default).n else 0
theorem plcB_lt {its:List ItV} {kb:Nat} (h:plcB its kb=true):plcI its kb<its.length:=by
 unfold plcB at h
 cases e:its[plcI its kb]? with
 | none=>rw [e] at h;cases h
 | some x=>exact (List.getElem?_eq_some_iff.1 e).1
theorem plcI_le (its:List ItV) (kb:Nat):plcI its kb≤its.length:=List.findIdx_le_length

theorem tabAt_any {w:World} {B T:Nat} {v:Value} {most:Int} {its:List ItV} (h:TabAt w B T v most its) (hr:rises its) (kb:Nat) (hk:kb<2 ^ 64) :
  Calls Tryz.prog 188 #[.pointer (some ⟨T,0,none⟩),.float .f64 kb] w (Ret (.int .i64 (atI its kb)) w):=by
 have H:=place_any h hr kb hk
 have hT:=h.lt
 have c1:=cell_row h.tab 1
 simp at c1
 cases hq:plcB its kb
 ·have e:atI its kb=0:=by simp [atI,hq]
  rw [e];rw [hq] at H
  generalize plcI its kb=p at *
  clear h hq e
  go_enter Tryz.func188,Tryz.ntmps188
  go_wp2_with (go_at_call 193;with_reducible refine mQ (H) ?_;intro w1 hb1 hc1 hf1 hz1;intros)
  go_ret
  exact ⟨rfl,by exact below_auto⟩
 ·have e:atI its kb=(its[plcI its kb]?.getD default).n:=by simp [atI,hq]
  have hp:=plcB_lt hq
  rw [e];rw [hq] at H
  have hown:=h.own
  rcases hown.2 with ⟨rfl,h0⟩|⟨g,cap,cur,rfl,hbg,hg,hnc,hcm,hcs,htake⟩
  ·have:=itCells_len its
   rw [h0] at this;simp at this;omega
  ·have hgl:=(Array.getElem?_eq_some_iff.1 hg).1
   obtain ⟨_,d1⟩:=own_cells hown rfl _ hp
   have hlen:=h.len
   generalize plcI its kb=p at *
   generalize (its[p]?.getD default).n=m at *
   generalize its.length=n at *
   have hp':(p:Int)<(n:Int):=by omega
   clear h hq e hown hg hcs htake
   go_enter Tryz.func188,Tryz.ntmps188
   go_wp2_with (go_at_call 193;with_reducible refine mQ (H) ?_;intro w1 hb1 hc1 hf1 hz1;intros)
   go_ret
   exact ⟨rfl,by exact below_auto⟩

theorem tabLen_any {w:World} {B T:Nat} {v:Value} {most:Int} {its:List ItV} (h:TabAt w B T v most its) :
  Calls Tryz.prog 60 #[.pointer (some ⟨T,0,none⟩)] w (Ret (.int .i64 its.length) w):=by
 have c1:=cell_row h.tab 1
 simp at c1
 have hown:=h.own
 rcases hown.2 with ⟨rfl,h0⟩|⟨g,cap,cur,rfl,hbg,hg,hnc,hcm,hcs,htake⟩
 ·have:=itCells_len its
  rw [h0] at this;simp at this
  rw [show its.length=0 by omega]
  clear h hown this h0
  go_enter Tryz.func60,Tryz.ntmps60
  go_wp2
  go_ret
  exact ⟨rfl,by exact below_auto⟩
 ·generalize its.length=n at *
  clear h hown hg hcs htake
  go_enter Tryz.func60,Tryz.ntmps60
  go_wp2
  go_ret
  exact ⟨rfl,by exact below_auto⟩

def mostI (m:Int):Int:=min (max m 0) 64
def NewRet (B:Nat) (w:World) (m:Int) (e:Ending) (w':World):Prop:=e=.returned (.pointer (some ⟨w.heap.size,0,none⟩))∧TabAt w' B w.heap.size (.slice none 0 0) (mostI m) []∧Below w.heap.size w w'
theorem tabNew_any (B:Nat) (m:Int) (w:World) (hB:B≤w.heap.size) (h1:-9223372036854775808≤m) (h2:m≤9223372036854775807) :
  Calls Tryz.prog 40 #[.int .i64 m] w (NewRet B w m):=by
 go_enter Tryz.func40,Tryz.ntmps40
 go_wp2
 go_ret
 refine ⟨rfl,⟨?_,World.ownsRow_nil _ _ _ _,by simp [Value.ownBlock],hB,by simp⟩,by exact below_auto⟩
 exact heap_alloc_new w _

theorem Upd.of_below {w w':World} (h:Below w.heap.size w w') (T:Nat) (v:Value):Upd w w' T v v:=⟨h.os,h.tape,h.output,h.size,fun k hk _ _=>h.block k hk,.inl rfl⟩

theorem tabClear_any {w:World} {B T:Nat} {v:Value} {most:Int} {its:List ItV} (h:TabAt w B T v most its) :
  Calls Tryz.prog 320 #[.pointer (some ⟨T,0,none⟩)] w fun e w'=>e=.returned (.tuple #[])∧TabAt w' B T (.slice none 0 0) most []∧Upd w w' T v (.slice none 0 0):=by
 have c1:=cell_row h.tab 1
 simp at c1
 have f1:w.frozen? ⟨T,1,none⟩=false:=by simp [World.frozen?,h.tab]
 have hfin:TabAt (w.setCell ⟨T,1,none⟩ (.slice none 0 0)) B T (.slice none 0 0) most []∧Upd w (w.setCell ⟨T,1,none⟩ (.slice none 0 0)) T v (.slice none 0 0):=by
  have e:=setCell_eq_setRow w T 1 _ _ _ (.slice none 0 0) h.tab
  rw [e]
  refine ⟨⟨by rw [setRow_heap w T _ _ _ _ h.tab];rfl,World.ownsRow_nil _ _ _ _,by simp [Value.ownBlock],h.low,by simp⟩,⟨rfl,rfl,rfl,by simp,fun k _ hk _=>setRow_other _ _ _ _ hk,.inr (.inl rfl)⟩⟩
 have hfin':=hid hfin
 clear h hfin
 go_enter Tryz.func320,Tryz.ntmps320
 go_wp2
 go_end0
 exact ⟨rfl,hfin'.out⟩

def putI (its:List ItV) (most:Int) (kb:Nat) (n:Int):Int×List ItV :=
 if isNaN kb=true then (40,its) else if n<1∨1099511627776<n then (43,its)
 else if plcB its kb=true then (0,its.set (plcI its kb) ⟨(its[plcI its kb]?.getD default).k,max (its[plcI its kb]?.getD default).n n⟩)
 else if (its.length:Int)=most then (3,its) else (0,its.take (plcI its kb)++[⟨kof kb,n⟩]++its.drop (plcI its kb))
def PutRet (w:World) (B T:Nat) (v:Value) (most:Int) (r:Int×List ItV) (e:Ending) (w':World):Prop:=∃ v',e=.returned (.int .i64 r.1)∧TabAt w' B T v' most r.2∧Upd w w' T v v'

theorem itCells_setn:∀ (its:List ItV) (p:Nat) (n:Int),p<its.length→itCells (its.set p ⟨(its[p]?.getD default).k,n⟩)=(itCells its).set (p * 2+1) (.int .i64 n)
 | [],_,_,h=>by simp at h
 | x :: its,0,n,_=>by simp [itCells,ItV.enc]
 | x :: its,p+1,n,h=>by
  have:=itCells_setn its p n (by simpa using h)
  simp only [itCells] at this
  simp [itCells,ItV.enc,this,show (p+1) * 2+1=p * 2+1+1+1 by omega]

set_option maxRecDepth 100000 in
theorem tabPut_bad {w:World} {B T:Nat} {v:Value} {most:Int} {its:List ItV} (h:TabAt w B T v most its) (hr:rises its) (kb:Nat) (hk:kb<2 ^ 64) (n:Int) (c:Int)
  (hc:(isNaN kb=true∧c=40)∨(isNaN kb=false∧n<1∧c=43)∨(isNaN kb=false∧1≤n∧1099511627776<n∧c=43)) :
  Calls Tryz.prog 120 #[.pointer (some ⟨T,0,none⟩),.float .f64 kb,.int .i64 n] w (PutRet w B T v most (c,its)):=by
 have H:=place_any h hr kb hk
 have fin:∀ e w',Ret (.int .i64 c) w e w'→PutRet w B T v most (c,its) e w':=fun e w' ⟨h1,h2⟩=>⟨v,h1,h.below h2,Upd.of_below h2 T v⟩
 refine Calls.mono ?_ fin
 clear fin
 generalize plcI its kb=p at *
 generalize plcB its kb=q at *
 clear h
 rcases hc with ⟨h1,rfl⟩|⟨h1,h2,rfl⟩|⟨h1,h2,h3,rfl⟩
 all_goals
  go_enter Tryz.func120,Tryz.ntmps120
  go_wp2_with (first|(go_at_call 193;with_reducible refine mQ (H) ?_;intro w1 hb1 hc1 hf1 hz1;intros)|(go_at_call 106;(with_reducible refine (isNaN_any _ _).mono ?_);rintro e w' ⟨rfl,rfl⟩))
  go_ret
  exact ⟨rfl,by exact below_auto⟩

set_option maxRecDepth 100000 in
theorem tabPut_set {w:World} {B T:Nat} {v:Value} {most:Int} {its:List ItV} (h:TabAt w B T v most its) (hr:rises its) (kb:Nat) (hk:kb<2 ^ 64) (n:Int) (h1:isNaN kb=false) (h2:1≤n) (h3:n≤1099511627776) (hq:plcB its kb=true) :
  Calls Tryz.prog 120 #[.pointer (some ⟨T,0,none⟩),.float .f64 kb,.int .i64 n] w (PutRet w B T v most (0,its.set (plcI its kb) ⟨(its[plcI its kb]?.getD default).k,max (its[plcI its kb]?.getD default).n n⟩)):=by
 have H:=place_any h hr kb hk
 have hp:=plcB_lt hq
 rw [hq] at H
 have hset:=itCells_setn its (plcI its kb) (max (its[plcI its kb]?.getD default).n n) hp
 generalize plcI its kb=p at *
 generalize hx:its[p]?.getD default=x at *
 have HX:=hid hx
 clear hx
 go_enter Tryz.func120,Tryz.ntmps120
 go_wp2_with fail
 ((with_reducible refine (H).mono ?_);rintro e w1 ⟨rfl,hb1⟩;refine mB hb1 ?_;intro hc1 hf1 hz1;intros)
 have h1':=h.below hb1
 have hub:=Upd.of_below hb1 T v
 clear hc1 hf1 hb1 H h hq
 have c1:=cell_row h1'.tab 1
 simp at c1
 have hT1:=h1'.lt
 have hown:=h1'.own
 rcases hown.2 with ⟨rfl,h0⟩|⟨g,cap,cur,rfl,hbg,hg,hnc,hcm,hcs,htake⟩
 ·have:=itCells_len its
  rw [h0] at this;simp at this;omega
 ·have hgl:=(Array.getElem?_eq_some_iff.1 hg).1
  obtain ⟨_,d1⟩:=own_cells hown rfl _ hp
  rw [HX.out] at d1
  have f1:w1.frozen? ⟨g,p * 2+1,none⟩=false:=by simp [World.frozen?,hg]
  have hlen:=h1'.len
  have hp':(p:Int)<(its.length:Int):=by omega
  have hgT:g≠T:=fun e=>h1'.apart (by rw [e];rfl)
  have fin:PutRet w B T (.slice (some ⟨g,0,none⟩) its.length cap) most (0,its.set p ⟨x.k,max x.n n⟩) (.returned (.int .i64 0)) (w1.drew.setCell ⟨g,p * 2+1,none⟩ (.int .i64 (max x.n n))):=by
   have hown2:w1.drew.ownsRow B 146 2 (.slice (some ⟨g,0,none⟩) its.length cap) its.length (itCells its):=hown
   obtain ⟨s1,s2⟩:=hown2.stored (p * 2+1) (.int .i64 (max x.n n))
   refine ⟨.slice (some ⟨g,0,none⟩) its.length cap,rfl,⟨?_,?_,h1'.apart,h1'.low,by simpa using hlen⟩,⟨?_,?_,?_,?_,?_,.inl rfl⟩⟩
   ·rw [s2.block T hT1 (by simp;omega)];exact h1'.tab
   ·rw [List.length_set,hset];exact s1
   ·exact s2.os.trans hub.os
   ·exact s2.tape.trans hub.tape
   ·exact s2.output.trans hub.output
   ·exact Nat.le_trans hub.size s2.size
   ·intro k hk hkT hkv
    have:=hub.size
    exact (s2.block k (by show k<w1.heap.size;omega) hkv).trans (hub.block k hk hkT hkv)
  have hfin:=hid fin
  clear fin hset h1' hub hown hg hcs htake hr
  have h2':¬n<1:=by omega
  have h3':¬1099511627776<n:=by omega
  clear h2 h3
  go_wp2_with (go_at_call 106;(with_reducible refine (isNaN_any _ _).mono ?_);rintro e w' ⟨rfl,rfl⟩)
  go_still_tail 15,(by kernel_rfl)
  change wpList _ _ _ _ _ w1.drew
  go_wp2
  go_ret
  exact hfin.out

set_option maxRecDepth 100000 in
theorem tabPut_full {w:World} {B T:Nat} {v:Value} {most:Int} {its:List ItV} (h:TabAt w B T v most its) (hr:rises its) (kb:Nat) (hk:kb<2 ^ 64) (n:Int) (h1:isNaN kb=false) (h2:1≤n) (h3:n≤1099511627776) (hq:plcB its kb=false) (hm:(its.length:Int)=most) :
  Calls Tryz.prog 120 #[.pointer (some ⟨T,0,none⟩),.float .f64 kb,.int .i64 n] w (PutRet w B T v most (3,its)):=by
 have H:=place_any h hr kb hk
 rw [hq] at H
 have fin:∀ e w',Ret (.int .i64 3) w e w'→PutRet w B T v most (3,its) e w':=fun e w' ⟨h1,h2⟩=>⟨v,h1,h.below h2,Upd.of_below h2 T v⟩
 refine Calls.mono ?_ fin
 clear fin
 generalize plcI its kb=p at *
 have hT:=h.lt
 have c0:=cell_row h.tab 0
 have c1:=cell_row h.tab 1
 simp at c0 c1
 have h2':¬n<1:=by omega
 have h3':¬1099511627776<n:=by omega
 have hown:=h.own
 rcases hown.2 with ⟨rfl,h0⟩|⟨g,cap,cur,rfl,hbg,hg,hnc,hcm,hcs,htake⟩
 ·have:=itCells_len its
  rw [h0] at this;simp at this
  obtain rfl:most=0:=by omega
  clear h hown this h0 hq hm
  go_enter Tryz.func120,Tryz.ntmps120
  go_wp2_with (first|(go_at_call 193;with_reducible refine mQ (H) ?_;intro w1 hb1 hc1 hf1 hz1;intros)|(go_at_call 106;(with_reducible refine (isNaN_any _ _).mono ?_);rintro e w' ⟨rfl,rfl⟩))
  go_quiet (fail)
  go_wp2
  go_ret
  exact ⟨rfl,by exact below_auto⟩
 ·generalize its.length=m at *
  subst hm
  clear h hown hq hg hcs htake
  go_enter Tryz.func120,Tryz.ntmps120
  go_wp2_with (first|(go_at_call 193;with_reducible refine mQ (H) ?_;intro w1 hb1 hc1 hf1 hz1;intros)|(go_at_call 106;(with_reducible refine (isNaN_any _ _).mono ?_);rintro e w' ⟨rfl,rfl⟩))
  go_quiet (fail)
  go_wp2
  go_ret
  exact ⟨rfl,by exact below_auto⟩

set_option maxRecDepth 100000 in
theorem tabPut_ins {w:World} {B T:Nat} {v:Value} {most:Int} {its:List ItV} (h:TabAt w B T v most its) (hB:B≤w.heap.size) (hr:rises its) (kb:Nat) (hk:kb<2 ^ 64) (n:Int) (h1:isNaN kb=false) (h2:1≤n) (h3:n≤1099511627776) (hq:plcB its kb=false)
  (hm:(its.length:Int)≠most) (hl:its.length<64) :
  Calls Tryz.prog 120 #[.pointer (some ⟨T,0,none⟩),.float .f64 kb,.int .i64 n] w (PutRet w B T v most (0,its.take (plcI its kb)++[⟨kof kb,n⟩]++its.drop (plcI its kb))):=by
 have H:=place_any h hr kb hk
 rw [hq] at H
 have hple:=plcI_le its kb
 have hcb:=cbits_num h1
 generalize plcI its kb=p at *
 have hm':((its.length:Int) == most)=false:=by simp;exact hm
 have h2':¬n<1:=by omega
 have h3':¬1099511627776<n:=by omega
 clear h2 h3 hm hq
 go_enter Tryz.func120,Tryz.ntmps120
 go_wp2_with fail
 ((with_reducible refine (H).mono ?_);rintro e w1 ⟨rfl,hb1⟩;refine mB hb1 ?_;intro hc1 hf1 hz1;intros)
 have h1':=h.below hb1
 have hub:=Upd.of_below hb1 T v
 have hB1:B≤w1.heap.size:=Nat.le_trans hB hb1.size
 clear hc1 hf1 H h
 have c0:=cell_row h1'.tab 0
 have c1:=cell_row h1'.tab 1
 simp at c0 c1
 have hT1:=h1'.lt
 have hown:=h1'.own
 obtain ⟨va,vn,vc,hv,hvl⟩:∃ va vn vc,v=.slice va vn vc∧vn=its.length:=by
  rcases hown.2 with ⟨rfl,h0⟩|⟨g,cap,cur,rfl,_⟩
  ·have:=itCells_len its
   rw [h0] at this;simp at this
   exact ⟨none,0,0,rfl,by omega⟩
  ·exact ⟨_,_,_,rfl,rfl⟩
 subst hv
 subst hvl
 have hvT:(Value.slice va its.length vc).ownBlock≠some T:=h1'.apart
 have hlow:=h1'.low
 clear hb1
 go_wp2_with (go_at_call 106;(with_reducible refine (isNaN_any _ _).mono ?_);rintro e w' ⟨rfl,rfl⟩)
 go_quiet (fail)
 rename_i nq
 have hcb':=hid hcb
 clear hcb
 go_wp2
 refine wp_region_notes_late [Note.val (.pointer (some ⟨T,0,none⟩)),Note.val (.pointer (some ⟨T,0,none⟩)),Note.val (.pointer (some ⟨T,0,none⟩)),Note.val (.pointer (some ⟨T,1,none⟩)),Note.val (.slice va its.length vc),Note.val (.int .i64 p),Note.val (.float .f64 kb),Note.val (.float .f64 (cbits kb)),Note.val (.int .i64 n),Note.val (.agg #[.float .f64 (cbits kb),.int .i64 n]),Note.row 146 1 1 [.float .f64 (cbits kb),.int .i64 n]] 0 rfl (by kernel_rfl) (by kernel_rfl) ?_ ?_ ?_
 ·simp only [List.length_cons,List.length_nil,Nat.reduceAdd,List.take_succ_cons,List.take_zero,StepsN,List.nil_append,List.cons_append]
  refine ⟨?_,?_,?_,?_,?_,?_,?_,?_,?_,?_,?_,trivial⟩
  ·intro u w2 hb2 hd
   refine mB hb2 ?_;intro hc2 hf2 hz2;intros
   refine mH ?_;clear hd
   ((try simp only [forall_exists_index,and_imp]);intros)
   clear u
   go_wp2_with (first|(go_at_call 195;(with_reducible refine (floCanon_any _ hk _).mono ?_);rintro e wy ⟨rfl,rfl⟩))
   exact ⟨rfl,by exact below_auto,rfl⟩
  ·intro u w2 hb2 hd
   refine mB hb2 ?_;intro hc2 hf2 hz2;intros
   refine mH ?_;clear hd
   generalize u 0=u0
   ((try simp only [forall_exists_index,and_imp]);intros)
   (try subst u0)
   clear u
   go_wp2_with (first|(go_at_call 195;(with_reducible refine (floCanon_any _ hk _).mono ?_);rintro e wy ⟨rfl,rfl⟩))
   exact ⟨rfl,by exact below_auto,rfl⟩
  ·intro u w2 hb2 hd
   refine mB hb2 ?_;intro hc2 hf2 hz2;intros
   refine mH ?_;clear hd
   generalize u 0=u0
   generalize u 1=u1
   ((try simp only [forall_exists_index,and_imp]);intros)
   (try subst u0)
   (try subst u1)
   clear u
   go_wp2_with (first|(go_at_call 195;(with_reducible refine (floCanon_any _ hk _).mono ?_);rintro e wy ⟨rfl,rfl⟩))
   exact ⟨rfl,by exact below_auto,rfl⟩
  ·intro u w2 hb2 hd
   refine mB hb2 ?_;intro hc2 hf2 hz2;intros
   refine mH ?_;clear hd
   generalize u 0=u0
   generalize u 1=u1
   generalize u 2=u2
   ((try simp only [forall_exists_index,and_imp]);intros)
   (try subst u0)
   (try subst u1)
   (try subst u2)
   clear u
   go_wp2_with (first|(go_at_call 195;(with_reducible refine (floCanon_any _ hk _).mono ?_);rintro e wy ⟨rfl,rfl⟩))
   exact ⟨rfl,by exact below_auto,rfl⟩
  ·intro u w2 hb2 hd
   refine mB hb2 ?_;intro hc2 hf2 hz2;intros
   refine mH ?_;clear hd
   generalize u 0=u0
   generalize u 1=u1
   generalize u 2=u2
   generalize u 3=u3
   ((try simp only [forall_exists_index,and_imp]);intros)
   (try subst u0)
   (try subst u1)
   (try subst u2)
   (try subst u3)
   clear u
   go_wp2_with (first|(go_at_call 195;(with_reducible refine (floCanon_any _ hk _).mono ?_);rintro e wy ⟨rfl,rfl⟩))
   exact ⟨rfl,by exact below_auto,rfl⟩
  ·intro u w2 hb2 hd
   refine mB hb2 ?_;intro hc2 hf2 hz2;intros
   refine mH ?_;clear hd
   generalize u 0=u0
   generalize u 1=u1
   generalize u 2=u2
   generalize u 3=u3
   generalize u 4=u4
   ((try simp only [forall_exists_index,and_imp]);intros)
   (try subst u0)
   (try subst u1)
   (try subst u2)
   (try subst u3)
   (try subst u4)
   clear u
   go_wp2_with (first|(go_at_call 195;(with_reducible refine (floCanon_any _ hk _).mono ?_);rintro e wy ⟨rfl,rfl⟩))
   exact ⟨rfl,by exact below_auto,rfl⟩
  ·intro u w2 hb2 hd
   refine mB hb2 ?_;intro hc2 hf2 hz2;intros
   refine mH ?_;clear hd
   generalize u 0=u0
   generalize u 1=u1
   generalize u 2=u2
   generalize u 3=u3
   generalize u 4=u4
   generalize u 5=u5
   ((try simp only [forall_exists_index,and_imp]);intros)
   (try subst u0)
   (try subst u1)
   (try subst u2)
   (try subst u3)
   (try subst u4)
   (try subst u5)
   clear u
   go_wp2_with (first|(go_at_call 195;(with_reducible refine (floCanon_any _ hk _).mono ?_);rintro e wy ⟨rfl,rfl⟩))
   exact ⟨rfl,by exact below_auto,rfl⟩
  ·intro u w2 hb2 hd
   refine mB hb2 ?_;intro hc2 hf2 hz2;intros
   refine mH ?_;clear hd
   generalize u 0=u0
   generalize u 1=u1
   generalize u 2=u2
   generalize u 3=u3
   generalize u 4=u4
   generalize u 5=u5
   generalize u 6=u6
   ((try simp only [forall_exists_index,and_imp]);intros)
   (try subst u0)
   (try subst u1)
   (try subst u2)
   (try subst u3)
   (try subst u4)
   (try subst u5)
   (try subst u6)
   clear u
   go_wp2_with (first|(go_at_call 195;(with_reducible refine (floCanon_any _ hk _).mono ?_);rintro e wy ⟨rfl,rfl⟩))
   exact ⟨rfl,by exact below_auto,rfl⟩
  ·intro u w2 hb2 hd
   refine mB hb2 ?_;intro hc2 hf2 hz2;intros
   refine mH ?_;clear hd
   generalize u 0=u0
   generalize u 1=u1
   generalize u 2=u2
   generalize u 3=u3
   generalize u 4=u4
   generalize u 5=u5
   generalize u 6=u6
   generalize u 7=u7
   ((try simp only [forall_exists_index,and_imp]);intros)
   (try subst u0)
   (try subst u1)
   (try subst u2)
   (try subst u3)
   (try subst u4)
   (try subst u5)
   (try subst u6)
   (try subst u7)
   clear u
   go_wp2_with (first|(go_at_call 195;(with_reducible refine (floCanon_any _ hk _).mono ?_);rintro e wy ⟨rfl,rfl⟩))
   exact ⟨rfl,by exact below_auto,rfl⟩
  ·intro u w2 hb2 hd
   refine mB hb2 ?_;intro hc2 hf2 hz2;intros
   refine mH ?_;clear hd
   generalize u 0=u0
   generalize u 1=u1
   generalize u 2=u2
   generalize u 3=u3
   generalize u 4=u4
   generalize u 5=u5
   generalize u 6=u6
   generalize u 7=u7
   generalize u 8=u8
   ((try simp only [forall_exists_index,and_imp]);intros)
   (try subst u0)
   (try subst u1)
   (try subst u2)
   (try subst u3)
   (try subst u4)
   (try subst u5)
   (try subst u6)
   (try subst u7)
   (try subst u8)
   clear u
   go_wp2_with (first|(go_at_call 195;(with_reducible refine (floCanon_any _ hk _).mono ?_);rintro e wy ⟨rfl,rfl⟩))
   exact ⟨rfl,by exact below_auto,rfl⟩
  ·intro u w2 hb2 hd
   refine mB hb2 ?_;intro hc2 hf2 hz2;intros
   refine mH ?_;clear hd
   generalize u 0=u0
   generalize u 1=u1
   generalize u 2=u2
   generalize u 3=u3
   generalize u 4=u4
   generalize u 5=u5
   generalize u 6=u6
   generalize u 7=u7
   generalize u 8=u8
   generalize u 9=u9
   ((try simp only [forall_exists_index,and_imp]);intros)
   (try subst u0)
   (try subst u1)
   (try subst u2)
   (try subst u3)
   (try subst u4)
   (try subst u5)
   (try subst u6)
   (try subst u7)
   (try subst u8)
   (try subst u9)
   clear u
   go_wp2_with (first|(go_at_call 195;(with_reducible refine (floCanon_any _ hk _).mono ?_);rintro e wy ⟨rfl,rfl⟩))
   exact ⟨rfl,by exact below_auto,w2.heap.size,rfl,Nat.le_refl _,by simp,heap_alloc_new _ _⟩
 intro u w2 hb2 hph hap
 refine mB hb2 ?_;intro hc2 hf2 hz2;intros
 have hp0:=hph 0 (by simp)
 have hp1:=hph 1 (by simp)
 have hp2:=hph 2 (by simp)
 have hp3:=hph 3 (by simp)
 have hp4:=hph 4 (by simp)
 have hp5:=hph 5 (by simp)
 have hp6:=hph 6 (by simp)
 have hp7:=hph 7 (by simp)
 have hp8:=hph 8 (by simp)
 have hp9:=hph 9 (by simp)
 have hp10:=hph 10 (by simp)
 clear hph hap
 simp only [List.length_cons,List.length_nil,List.take_succ_cons,List.take_zero,List.drop_succ_cons,List.drop_zero,List.cons_append,List.nil_append,putsFrom,putsBut,Act.put,qA,qB,qC,Nat.zero_add,Nat.reduceAdd,Nat.reduceEqDiff,if_true,if_false,reduceIte,Nat.zero_ne_one,Nat.one_ne_zero]
 generalize u 0=u0 at *
 generalize u 1=u1 at *
 generalize u 2=u2 at *
 generalize u 3=u3 at *
 generalize u 4=u4 at *
 generalize u 5=u5 at *
 generalize u 6=u6 at *
 generalize u 7=u7 at *
 generalize u 8=u8 at *
 generalize u 9=u9 at *
 generalize u 10=u10 at *
 clear u
 cases hp0
 cases hp1
 cases hp2
 cases hp3
 cases hp4
 cases hp5
 cases hp6
 cases hp7
 cases hp8
 cases hp9
 obtain ⟨B10,rfl,hl10,hg10,hs10⟩:=hp10
 (try simp only [cellsAre,and_true] at hs10)
 rotate_left
 intro u w2 hb2 hph hap
 refine mB hb2 ?_;intro hc2 hf2 hz2;intros
 have hp1:=hph 1 (by simp) (by decide)
 have hp2:=hph 2 (by simp) (by decide)
 have hp3:=hph 3 (by simp) (by decide)
 have hp4:=hph 4 (by simp) (by decide)
 have hp5:=hph 5 (by simp) (by decide)
 have hp6:=hph 6 (by simp) (by decide)
 have hp7:=hph 7 (by simp) (by decide)
 have hp8:=hph 8 (by simp) (by decide)
 have hp9:=hph 9 (by simp) (by decide)
 have hp10:=hph 10 (by simp) (by decide)
 clear hph hap
 simp only [List.length_cons,List.length_nil,List.take_succ_cons,List.take_zero,List.drop_succ_cons,List.drop_zero,List.cons_append,List.nil_append,putsFrom,putsBut,Act.put,qA,qB,qC,Nat.zero_add,Nat.reduceAdd,Nat.reduceEqDiff,if_true,if_false,reduceIte,Nat.zero_ne_one,Nat.one_ne_zero]
 generalize u 1=u1 at *
 generalize u 2=u2 at *
 generalize u 3=u3 at *
 generalize u 4=u4 at *
 generalize u 5=u5 at *
 generalize u 6=u6 at *
 generalize u 7=u7 at *
 generalize u 8=u8 at *
 generalize u 9=u9 at *
 generalize u 10=u10 at *
 clear u
 cases hp1
 cases hp2
 cases hp3
 cases hp4
 cases hp5
 cases hp6
 cases hp7
 cases hp8
 cases hp9
 obtain ⟨B10,rfl,hl10,hg10,hs10⟩:=hp10
 (try simp only [cellsAre,and_true] at hs10)
 rotate_left
 all_goals
  have hb12:Below w1.heap.size w1 w2:=by exact below_auto
  have h2t:=h1'.below hb12
  have hsz12:=hb12.size
  have hB2:B≤w2.heap.size:=by omega
  have hub2:Upd w w2 T (.slice va its.length vc) (.slice va its.length vc):=⟨hb12.os.trans hub.os,hb12.tape.trans hub.tape,hb12.output.trans hub.output,Nat.le_trans hub.size hb12.size,fun k hk h1 h2=>(hb12.block k (Nat.lt_of_lt_of_le hk hub.size)).trans (hub.block k hk h1 h2),.inl rfl⟩
  have hlB:w1.heap.size≤B10:=by simpa using hl10
  have hvB:(Value.slice va its.length vc).ownBlock≠some B10:=by
   intro e
   have:=(h1'.own.lt B10 e).2
   omega
  have hI:=vInsert (.slice va its.length vc) B10 B its.length p (itCells its) [.float .f64 (cbits kb),.int .i64 n] w2 hB2 h2t.own (by omega) hple (itCells_one its) rfl (by intro u hu;simp at hu;rcases hu with rfl|rfl <;> rfl) hs10 hvB
  clear hc2 hf2 hs10
  have cT:=cell_row h2t.tab 1
  simp at cT
  go_wp2_with fail
  with_reducible refine hI.mono ?_
  rintro e w3 ⟨v',rfl,hown3,hgr3⟩
  clear hI
  rcases hown3.2 with ⟨rfl,h0⟩|⟨g3,cap3,cur3,rfl,hbg3,hg3,hnc3,hcm3,hcs3,htake3⟩
  ·have:=hown3.1
   rw [h0] at this;simp at this
  ·have hT2:=h2t.lt
   have t3:w3.heap[T]? = some (.cells #[.int .i64 most,.slice va its.length vc] 214 (0,0)):=(hgr3.1.block T hT2 (fun e=>hvT e.symm)).trans h2t.tab
   have c3:=cell_row t3 1
   have f3:w3.frozen? ⟨T,1,none⟩=false:=by simp [World.frozen?,t3]
   simp at c3
   have hgT:g3≠T:=fun e=>by
    rcases hgr3.2 with h|h|⟨g,h,hge⟩
    ·exact hvT (by rw [←h,e];rfl)
    ·simp [Value.ownBlock] at h
    ·simp [Value.ownBlock] at h;omega
   have hcells:itCells its |>.take (p * 2) |> (·++[Value.float .f64 (cbits kb),Value.int .i64 n]++(itCells its).drop (p * 2)) |> (· = itCells (its.take p++[⟨kof kb,n⟩]++its.drop p)):=by
    show (itCells its).take (p * 2)++[Value.float .f64 (cbits kb),Value.int .i64 n]++(itCells its).drop (p * 2)=_
    unfold itCells
    rw [flat_take ItV.enc_len,flat_drop ItV.enc_len,List.flatMap_append,List.flatMap_append,hcb'.out]
    rfl
   have hlen3:(its.take p++[(⟨kof kb,n⟩:ItV)]++its.drop p).length=its.length+1:=by simp;omega
   have fin:PutRet w B T (.slice va its.length vc) most (0,its.take p++[⟨kof kb,n⟩]++its.drop p) (.returned (.int .i64 0)) (w3.setCell ⟨T,1,none⟩ (.slice (some ⟨g3,0,none⟩) (its.length+1) cap3)):=by
    rw [setCell_eq_setRow w3 T 1 _ _ _ _ t3]
    have hk3:=grownBy_setRow w3 T (#[Value.int .i64 most,Value.slice va its.length vc].setIfInBounds 1 (.slice (some ⟨g3,0,none⟩) (its.length+1) cap3))
    refine ⟨.slice (some ⟨g3,0,none⟩) (its.length+1) cap3,rfl,⟨?_,?_,by simpa [Value.ownBlock] using hgT,hlow,by rw [hlen3];omega⟩,⟨?_,?_,?_,?_,?_,?_⟩⟩
    ·rw [setRow_heap w3 T _ _ _ _ t3];rfl
    ·rw [hlen3,←hcells]
     exact hown3.kept hk3 (.inr (by simpa [Value.ownBlock] using hgT))
    ·exact hk3.os.trans (hgr3.1.os.trans hub2.os)
    ·exact hk3.tape.trans (hgr3.1.tape.trans hub2.tape)
    ·exact hk3.output.trans (hgr3.1.output.trans hub2.output)
    ·exact Nat.le_trans hub2.size (Nat.le_trans hgr3.1.size hk3.size)
    ·intro k hk hkT hkv
     have q1:=hub2.size
     have q2:=hgr3.1.size
     exact (hk3.block k (by omega) (by simpa using hkT)).trans ((hgr3.1.block k (by omega) hkv).trans (hub2.block k hk hkT hkv))
    ·rcases hgr3.2 with h|h|⟨g,h,hge⟩
     ·exact .inl h
     ·exact .inr (.inl h)
     ·exact .inr (.inr ⟨g,h,Nat.le_trans hub2.size hge⟩)
   have hfin:=hid fin
   clear fin hcells hlen3 t3 hown3 hgr3 hub2 hub h1' h2t hown hg3 hcs3 htake3 hcb' hb12 hr hvT hvB hgT
   go_wp2
   go_ret
   exact hfin.out

theorem tabPut_any {w:World} {B T:Nat} {v:Value} {most:Int} {its:List ItV} (h:TabAt w B T v most its) (hB:B≤w.heap.size) (hr:rises its) (kb:Nat) (hk:kb<2 ^ 64) (n:Int) (hm1:(its.length:Int)≤most) (hm2:most≤64) :
  Calls Tryz.prog 120 #[.pointer (some ⟨T,0,none⟩),.float .f64 kb,.int .i64 n] w (PutRet w B T v most (putI its most kb n)):=by
 unfold putI
 by_cases h1:isNaN kb=true
 ·rw [if_pos h1];exact tabPut_bad h hr kb hk n 40 (.inl ⟨h1,rfl⟩)
 ·have h1':isNaN kb=false:=by simpa using h1
  rw [if_neg h1]
  by_cases h2:n<1∨1099511627776<n
  ·rw [if_pos h2]
   by_cases h3:n<1
   ·exact tabPut_bad h hr kb hk n 43 (.inr (.inl ⟨h1',h3,rfl⟩))
   ·exact tabPut_bad h hr kb hk n 43 (.inr (.inr ⟨h1',by omega,by omega,rfl⟩))
  ·rw [if_neg h2]
   by_cases h3:plcB its kb=true
   ·rw [if_pos h3];exact tabPut_set h hr kb hk n h1' (by omega) (by omega) h3
   ·have h3':plcB its kb=false:=by simpa using h3
    rw [if_neg h3]
    by_cases h4:(its.length:Int)=most
    ·rw [if_pos h4];exact tabPut_full h hr kb hk n h1' (by omega) (by omega) h3' h4
    ·rw [if_neg h4];exact tabPut_ins h hB hr kb hk n h1' (by omega) (by omega) h3' h4 (by omega)

def kept (m:Int) (its:List ItV):List ItV:=its.filter fun x=>!decide (x.n≤m)

theorem grown_trans {w w1 w2:World} {r:Option Nat} (h1:w.grownBy w1 r) (h2:w1.grownBy w2 r):w.grownBy w2 r :=
 ⟨h2.os.trans h1.os,h2.tape.trans h1.tape,h2.output.trans h1.output,Nat.le_trans h1.size h2.size,fun k hk hne=>(h2.block k (Nat.lt_of_lt_of_le hk h1.size) hne).trans (h1.block k hk hne)⟩
theorem grown_row {w w1:World} {r:Option Nat} (h:w.grownBy w1 none):w.grownBy w1 r:=⟨h.os,h.tape,h.output,h.size,fun k hk _=>h.block k hk (by simp)⟩

theorem own_slice {w:World} {B:Nat} {v:Value} {its:List ItV} (h:w.ownsRow B 146 2 v its.length (itCells its)):∃ va vc,v=.slice va its.length vc:=by
 rcases h.2 with ⟨rfl,h0⟩|⟨g,cap,cur,rfl,_⟩
 ·have:=itCells_len its
  rw [h0] at this;simp at this
  exact ⟨none,0,by rw [show its.length=0 by omega]⟩
 ·exact ⟨_,_,rfl⟩

def AllRet (w:World) (its:List ItV) (e:Ending) (w':World):Prop :=
 ∃ v',e=.returned v'∧w'.ownsRow w.heap.size 146 2 v' its.length (itCells its)∧Below w.heap.size w w'

theorem vSlNil (w:World) (a:Option Addr) (n c:Nat):(binOp .eql 143 (.slice a n c) (.slice none 0 0)).run Tryz.prog w=.ok (.bool a.isNone) w:=Go.Lib.run_eql_slice_nil w _ _ a n c 0 0 Tryz.underlying143
set_option maxRecDepth 100000 in
theorem vClone_row (g n c:Nat) (its:List ItV) (cur:Array Value) (w:World) (hn:its.length=n) (hlen:n≤64) (hnc:n≤c) (hcm:c≤maxLen)
  (hg:w.heap[g]? = some (.cells cur 146 (0,0))) (hcs:cur.size=c * 2) (htake:cur.toList.take (n * 2)=itCells its) :
  Calls Tryz.prog 137 #[.slice (some ⟨g,0,none⟩) n c] w (AllRet w its):=by
 obtain ⟨i0,hi0,hz0,hzs,hzb⟩:=info_parts vItemInfo
 have hgl:=(Array.getElem?_eq_some_iff.1 hg).1
 have hrow0:w.ownsRow 0 146 2 (.slice (some ⟨g,0,none⟩) n c) n (itCells its):=⟨by rw [itCells_len,hn],.inr ⟨g,c,cur,rfl,Nat.zero_le _,hg,hnc,hcm,hcs,htake⟩⟩
 have hb1:Below w.heap.size w (w.alloc (.cells #[] 146)):=by exact below_auto
 have hown1:(w.alloc (.cells #[] 146)).ownsRow w.heap.size 146 2 (.slice (some ⟨w.heap.size,0,none⟩) 0 0) 0 [] :=
  ⟨rfl,.inr ⟨w.heap.size,0,#[],rfl,Nat.le_refl _,heap_alloc_new w _,Nat.le_refl _,by unfold maxLen;omega,rfl,rfl⟩⟩
 by_cases h0:n=0
 ·subst h0
  obtain rfl:its=[]:=List.eq_nil_of_length_eq_zero hn
  have fin:AllRet w [] (.returned (.slice (some ⟨w.heap.size,0,none⟩) 0 0)) (w.alloc (.cells #[] 146)):=⟨_,rfl,hown1,hb1⟩
  have hfin:=hid fin
  clear hrow0 hb1 hown1 htake hcs hg fin hz0 hzs hzb
  have hE:=vSlNil
  go_enter Tryz.func137,Tryz.ntmps137
  go_wp2
  go_ret
  exact hfin.out
 ·obtain ⟨v',w',hr,h2,h3⟩:=run_append_own2 (P:=Tryz.prog) (w.alloc (.cells #[] 146)) w.heap.size 143 146 i0 _ 2 16 Tryz.underlying143 hi0 hz0 hzs hzb rfl (by omega) _ 0 [] hown1 ⟨g,0,none⟩ n c (itCells its) (by rw [itCells_len,hn])
   (fun j u hj=>by
    have:=(hrow0.kept (grown_of_below hb1) (by simp [Value.ownBlock])).cells (g:=g) rfl j u hj
    exact this) (itCells_one its) (by omega) (by unfold maxLen;omega) (by omega) (by simp)
  have fin:AllRet w its (.returned v') w':=⟨v',rfl,by rw [hn];simpa using h2,⟨h3.1.os.trans hb1.os,h3.1.tape.trans hb1.tape,h3.1.output.trans hb1.output,Nat.le_trans hb1.size h3.1.size,fun k hk=>(h3.1.block k (by simp;omega) (by simp [Value.ownBlock];omega)).trans (hb1.block k hk)⟩⟩
  have hfin:=hid fin
  clear hrow0 hb1 hown1 htake hcs hg fin hz0 hzs hzb h2 h3
  have hE:=vSlNil
  go_enter Tryz.func137,Tryz.ntmps137
  go_wp2_with (at_builtin;refine Lib.wpList_append_run _ rfl _ _ _ _ rfl _ _ rfl rfl _ _ (hr _) ?_)
  go_ret
  exact hfin.out

theorem vClone_any {w:World} {B:Nat} {v:Value} {its:List ItV} (hown:w.ownsRow B 146 2 v its.length (itCells its)) (hl:its.length≤64) :
  Calls Tryz.prog 137 #[v] w (AllRet w its):=by
 rcases hown.2 with ⟨rfl,h0⟩|⟨g,cap,cur,rfl,hbg,hg,hnc,hcm,hcs,htake⟩
 ·have:=itCells_len its
  rw [h0] at this;simp at this
  obtain rfl:its=[]:=List.eq_nil_of_length_eq_zero (by omega)
  have fin:∀ W,Below w.heap.size w W→AllRet w [] (.returned (.slice none 0 0)) W:=fun W hb=>⟨_,rfl,World.ownsRow_nil _ _ _ _,hb⟩
  have hfin:=hid fin
  clear fin
  have hE:=vSlNil
  go_enter Tryz.func137,Tryz.ntmps137
  go_wp2
  go_ret
  exact hfin.out _ (by exact below_auto)
 ·exact vClone_row g its.length cap its cur w rfl hl hnc hcm hg hcs htake

theorem tabAll_any {w:World} {B T:Nat} {v:Value} {most:Int} {its:List ItV} (h:TabAt w B T v most its) :
  Calls Tryz.prog 61 #[.pointer (some ⟨T,0,none⟩)] w (AllRet w its):=by
 have H:=vClone_any h.own h.len
 have c1:=cell_row h.tab 1
 simp at c1
 have fin:∀ v' w1 W,w1.ownsRow w.heap.size 146 2 v' its.length (itCells its)→Below w.heap.size w w1→Below w1.heap.size w1 W→AllRet w its (.returned v') W:=fun v' w1 W h1 h2 h3 =>
  ⟨v',rfl,h1.kept (grown_of_below h3) (by cases v'.ownBlock <;> simp),h2.trans (h3.mono h2.size)⟩
 have hfin:=hid fin
 clear fin h
 go_enter Tryz.func61,Tryz.ntmps61
 go_wp2_with fail
 with_reducible refine H.mono ?_
 rintro e w1 ⟨v',rfl,h1,h2⟩
 have g1:=hid h1
 clear h1 H
 go_wp2
 go_ret
 exact hfin.out v' w1 _ g1.out h2 (Below.refl _ _)

def overI (its:List ItV) (r:Rg):Int:=its.foldl (fun m x=>if hasB r x.k.bits=true then max m x.n else m) 0
theorem overI_snoc (its:List ItV) (x:ItV) (r:Rg):overI (its++[x]) r=if hasB r x.k.bits=true then max (overI its r) x.n else overI its r:=by simp [overI,List.foldl_append]
theorem fold_skip (r:Rg):∀ (its:List ItV) (m:Int),(∀ x∈its,hasB r x.k.bits=false)→its.foldl (fun m x=>if hasB r x.k.bits=true then max m x.n else m) m=m
 | [],m,_=>rfl
 | x :: its,m,h=>by
  rw [List.foldl_cons,h x (by simp)]
  simp only [Bool.false_eq_true,if_false]
  exact fold_skip r its m fun y hy=>h y (by simp [hy])
theorem overI_none (its:List ItV):overI its none=0:=fold_skip none its 0 fun _ _=>rfl
theorem hasB_kk (l h k:Key):hasB (some (l,h)) k.bits=(decide (l.v≤k.v) && decide (k.v≤h.v)):=by simp [hasB,fle_kk]

theorem plc_before {its:List ItV} {kb i:Nat} {x:ItV} (hi:i<plcI its kb) (hx:its[i]? = some x):codeOf x.k.bits<codeOf kb:=by
 have:=List.not_of_lt_findIdx hi
 rw [List.getElem?_eq_some_iff] at hx
 obtain ⟨h1,rfl⟩:=hx
 simpa using this
theorem plc_behind {its:List ItV} (hr:rises its) {kb i:Nat} {x:ItV} (hi:plcI its kb≤i) (hx:its[i]? = some x):codeOf kb≤codeOf x.k.bits:=by
 obtain ⟨h1,h2⟩:=List.getElem?_eq_some_iff.1 hx
 have hp:plcI its kb<its.length:=by omega
 have h3:¬codeOf its[plcI its kb].k.bits<codeOf kb:=by
  have e:=List.findIdx_getElem (w:=(show List.findIdx (fun x:ItV=>!decide (codeOf x.k.bits<codeOf kb)) its<its.length from hp))
  rw [Bool.not_eq_true',decide_eq_false_iff_not] at e
  exact e
 apply Int.not_lt.1
 intro h4
 exact h3 (rises_mono hr kb _ _ hi _ _ (List.getElem?_eq_getElem hp) hx h4)

theorem over_start {its:List ItV} (l h:Key):overI (its.take (plcI its l.bits)) (some (l,h))=0:=by
 refine fold_skip _ _ 0 fun x hx=>?_
 obtain ⟨j,hj,rfl⟩:=List.getElem_of_mem hx
 rw [List.length_take] at hj
 have hj':j<its.length:=by omega
 have:=plc_before (its:=its) (kb:=l.bits) (i:=j) (by omega) (List.getElem?_eq_getElem hj')
 rw [codeOf_key,codeOf_key,kcode_lt] at this
 rw [List.getElem_take,hasB_kk]
 simp;omega
theorem over_step {its:List ItV} (hr:rises its) {l h:Key} {i:Nat} {x:ItV} (hi:plcI its l.bits≤i) (hx:its[i]? = some x) (hd:decide (x.k.v≤h.v)=true):overI (its.take (i+1)) (some (l,h))=max (overI (its.take i) (some (l,h))) x.n:=by
 have h1:=plc_behind hr hi hx
 rw [codeOf_key,codeOf_key] at h1
 have h2:=kcode_lt x.k l
 rw [List.take_add_one,hx]
 show overI (_++[x]) _=_
 rw [overI_snoc,hasB_kk,hd,if_pos (by simp;omega)]
theorem over_end {its:List ItV} (hr:rises its) {l h:Key} {i:Nat} {x:ItV} (hx:its[i]? = some x) (hd:decide (x.k.v≤h.v)=false):overI its (some (l,h))=overI (its.take i) (some (l,h)):=by
 obtain ⟨h1,h2⟩:=List.getElem?_eq_some_iff.1 hx
 unfold overI
 conv=>lhs;rw [←List.take_append_drop i its,List.foldl_append]
 refine fold_skip _ _ _ fun y hy=>?_
 obtain ⟨j,hj,rfl⟩:=List.getElem_of_mem hy
 rw [List.length_drop] at hj
 rw [List.getElem_drop,hasB_kk]
 simp at hd ⊢
 intro _
 rcases Nat.eq_zero_or_pos j with rfl|hj0
 ·simp only [Nat.add_zero,h2];exact hd
 ·have:=(List.pairwise_iff_getElem.1 hr) i (i+j) h1 (by omega) (by omega)
  rw [h2] at this;omega

set_option maxRecDepth 100000 in
theorem tabOver_any {w:World} {B T:Nat} {v:Value} {most:Int} {its:List ItV} (h:TabAt w B T v most its) (hr:rises its) (lo hi:Nat) (a b:Bool) (hl:lo<2 ^ 64) (hh:hi<2 ^ 64) :
  Calls Tryz.prog 229 #[.pointer (some ⟨T,0,none⟩),.agg #[.float .f64 lo,.float .f64 hi,.bool a,.bool b]] w (Ret (.int .i64 (overI its (canonS lo hi a b))) w):=by
 obtain ⟨r,hrr⟩:∃ r,canonS lo hi a b=r:=⟨_,rfl⟩
 rw [hrr]
 have Hr:Hid (canonS lo hi a b=r):=hrr
 rcases r with _|⟨l,hk⟩
 ·clear hrr
  rw [overI_none]
  have He:Hid ((canonS 0 0 true true).isNone=true):=hid (by rw [canonS_empty];rfl)
  clear h
  go_enter Tryz.func229,Tryz.ntmps229
  go_wp2_with (first|(go_at_call 181;with_reducible refine mQ (canon_isN _ _ _ _ _ hl hh Hr) ?_;intro w1 hb1 hc1 hf1 hz1;intros)|(go_at_call 108;with_reducible refine mQ (empty_is _ _ _ _ true _ (by omega) (by omega) He) ?_;intro w2 hb2 hc2 hf2 hz2;intros))
  go_ret
  exact ⟨rfl,by exact below_auto⟩
 ·have ok:=canonS_le hrr
  clear hrr
  have He:Hid ((canonS l.bits hk.bits false false).isNone=false):=hid (by rw [canonS_canon l hk ok];rfl)
  obtain ⟨va,vc,rfl⟩:=own_slice h.own
  have HP:∀ W,Below w.heap.size w W→Calls Tryz.prog 193 #[.pointer (some ⟨T,0,none⟩),.float .f64 l.bits] W (Ret (.tuple #[.int .i64 (plcI its l.bits),.bool (plcB its l.bits)]) W):=fun W hb=>place_any (h.below hb) hr l.bits (Key.bits_lt l)
  have hT:=h.lt
  have c1:=cell_row h.tab 1
  simp at c1
  have hva:0<its.length→∃ g,va=some ⟨g,0,none⟩∧g<w.heap.size∧∀ i,i<its.length→w.cell? ⟨g,i * 2,none⟩=some (.float .f64 (its[i]?.getD default).k.bits)∧w.cell? ⟨g,i * 2+1,none⟩=some (.int .i64 (its[i]?.getD default).n):=by
   intro h0
   rcases h.own.2 with ⟨hv,h1⟩|⟨g,cap,cur,hv,hbg,hg,hnc,hcm,hcs,htake⟩
   ·have:=itCells_len its
    rw [h1] at this;simp at this;omega
   ·obtain ⟨rfl,rfl⟩:va=some ⟨g,0,none⟩∧vc=cap:=by cases hv;exact ⟨rfl,rfl⟩
    exact ⟨g,rfl,(Array.getElem?_eq_some_iff.1 hg).1,own_cells h.own rfl⟩
  have h0:=over_start (its:=its) l hk
  have hstep:=fun i x=>over_step (i:=i) (x:=x) hr (l:=l) (h:=hk)
  have hend:=fun i x=>over_end (i:=i) (x:=x) hr (l:=l) (h:=hk)
  have hple:=plcI_le its l.bits
  have hlen:=h.len
  generalize plcI its l.bits=p at *
  generalize plcB its l.bits=q at *
  have H0:=hid h0;have HS:=hid hstep;have HE:=hid hend;have HV:=hid hva
  have HN:Hid (its.take its.length=its):=hid (List.take_length)
  obtain ⟨n,hn⟩:∃ n,its.length=n:=⟨_,rfl⟩
  rw [hn] at HV hple hlen c1 HN
  have Hn:=hid hn
  clear h0 hstep hend hva h hn
  go_enter Tryz.func229,Tryz.ntmps229
  go_wp2_with (first|(go_at_call 181;with_reducible refine mQ (canon_isS _ _ _ _ l hk _ hl hh Hr) ?_;intro w1 hb1 hc1 hf1 hz1;intros)|(go_at_call 108;with_reducible refine mQ (empty_is _ _ _ _ false _ (Key.bits_lt _) (Key.bits_lt _) He) ?_;intro w2 hb2 hc2 hf2 hz2;intros)|(go_at_call 193;with_reducible refine mQ (HP _ (by exact below_auto)) ?_;intro w3 hb3 hc3 hf3 hz3;intros))
  go_loopw [5,6] (fun mv iv wr=>∃ i:Nat,p≤i∧i≤n∧iv=.int .i64 i∧mv=.int .i64 (overI (its.take i) (some (l,hk)))∧Below w.heap.size w wr∧w.heap.size<wr.heap.size∧wr.cell? ⟨w.heap.size,1,none⟩=some (.float .f64 hk.bits)) (fun _ iv _=>n-(intOf iv).toNat)
  case atStart=>refine ⟨p,Nat.le_refl _,hple,rfl,by rw [H0.out],by exact below_auto,by assumption,by
   rw [hc3 _ _ (by assumption),hc2 _ _ (by simp;assumption)]
   simp [go_sem, *]⟩
  case round =>
   obtain ⟨i,hpi,hin,rfl,rfl,hbw,hsz,ch⟩:=hrel
   have cT:=(hbw.cell (p:=⟨T,1,none⟩) hT).trans c1
   by_cases hlt:i<n
   ·obtain ⟨g,rfl,hgl,hcs⟩:=HV.out (by omega)
    have hlt':(i:Int)<(n:Int):=by omega
    obtain ⟨d0,d1⟩:=hcs i hlt
    have hkx:=hid (it_some (its:=its) (k:=i) (by rw [Hn.out];exact hlt))
    have d0:=(hbw.cell (p:=⟨g,_,none⟩) hgl).trans d0
    have d1:=(hbw.cell (p:=⟨g,_,none⟩) hgl).trans d1
    clear hcs
    generalize its[i]?.getD default=x at *
    cases hd:decide (x.k.v≤hk.v)
    ·have HX:=hid (HE.out i x hkx.out hd)
     have hd':(decide (x.k.v<hk.v)||decide (x.k.v=hk.v))=false:=by simp at hd ⊢;omega
     clear hd
     go_wp2
     go_quiet (fail)
     go_wp2
     go_ret
     exact ⟨by rw [HX.out];rfl,by exact below_auto⟩
    ·have HX:=hid (HS.out i x hpi hkx.out hd)
     have hd':(decide (x.k.v<hk.v)||decide (x.k.v=hk.v))=true:=by simp at hd ⊢;omega
     clear hd
     go_wp2
     go_quiet (fail)
     go_wp2
     go_roundw
     case rel=>exact ⟨i+1,by omega,by omega,by go_num,by rw [HX.out],by exact below_auto,by simp;omega,by go_simp⟩
     case measure=>simp [intOf];omega
   ·obtain rfl:i=n:=by omega
    go_wp2
    go_quiet (fail)
    go_wp2
    go_ret
    exact ⟨by rw [HN.out];rfl,by exact below_auto⟩

theorem rises_set {its:List ItV} (h:rises its) (p:Nat) (n:Int) (hp:p<its.length):rises (its.set p ⟨(its[p]?.getD default).k,n⟩):=by
 unfold rises at *
 have e:∀ l:List ItV,l.Pairwise (fun x y=>x.k.v<y.k.v)↔(l.map fun x=>x.k.v).Pairwise (· < ·):=fun l=>by rw [List.pairwise_map]
 rw [e] at *
 have e2:(its.set p ⟨(its[p]?.getD default).k,n⟩).map (fun x=>x.k.v)=its.map fun x=>x.k.v:=by
  rw [List.map_set]
  apply List.ext_getElem?
  intro i
  rw [List.getElem?_set]
  split
  ·rename_i h1
   subst h1
   rw [List.length_map,if_pos hp,List.getElem?_map,List.getElem?_eq_getElem hp]
   rfl
  ·rfl
 rw [e2];exact h
theorem plc_miss {its:List ItV} {kb i:Nat} {x:ItV} (hr:rises its) (hq:plcB its kb=false) (hi:plcI its kb≤i) (hx:its[i]? = some x):codeOf kb<codeOf x.k.bits:=by
 have h1:=plc_behind hr hi hx
 rcases Int.lt_or_eq_of_le h1 with h|h
 ·exact h
 ·exfalso
  obtain ⟨h2,h3⟩:=List.getElem?_eq_some_iff.1 hx
  rcases Nat.lt_or_eq_of_le hi with h4|h4
  ·have hp:plcI its kb<its.length:=by omega
   have h5:=plc_behind hr (Nat.le_refl _) (List.getElem?_eq_getElem hp)
   have h6:=(List.pairwise_iff_getElem.1 hr) _ i hp h2 h4
   rw [h3] at h6
   rw [codeOf_key] at h h5
   have:=(kcode_lt its[plcI its kb].k x.k).2 h6
   omega
  ·unfold plcB at hq
   rw [h4,hx] at hq
   simp at hq;exact hq h.symm
theorem rises_ins {its:List ItV} (hr:rises its) {kb:Nat} (hn:isNaN kb=false) (n:Int) (hq:plcB its kb=false):rises (its.take (plcI its kb)++[⟨kof kb,n⟩]++its.drop (plcI its kb)):=by
 have hcb:codeOf kb=kcode (kof kb):=by simp [codeOf,hn]
 have hlo:∀ x∈its.take (plcI its kb),x.k.v<(kof kb).v:=fun x hx=>by
  obtain ⟨j,hj,rfl⟩:=List.getElem_of_mem hx
  rw [List.length_take] at hj
  have:=plc_before (its:=its) (kb:=kb) (i:=j) (by omega) (List.getElem?_eq_getElem (by omega))
  rw [codeOf_key,hcb,kcode_lt] at this
  rw [List.getElem_take];exact this
 have hhi:∀ x∈its.drop (plcI its kb),(kof kb).v<x.k.v:=fun x hx=>by
  obtain ⟨j,hj,rfl⟩:=List.getElem_of_mem hx
  rw [List.length_drop] at hj
  have:=plc_miss (i:=plcI its kb+j) hr hq (by omega) (List.getElem?_eq_getElem (by omega))
  rw [codeOf_key,hcb,kcode_lt] at this
  rw [List.getElem_drop];exact this
 unfold rises at *
 rw [List.append_assoc,List.pairwise_append]
 refine ⟨hr.sublist (List.take_sublist _ _),?_,?_⟩
 ·rw [List.singleton_append,List.pairwise_cons]
  exact ⟨hhi,hr.sublist (List.drop_sublist _ _)⟩
 ·intro x hx y hy
  rw [List.singleton_append,List.mem_cons] at hy
  rcases hy with rfl|hy
  ·exact hlo x hx
  ·exact Int.lt_trans (hlo x hx) (hhi y hy)
theorem putI_rises {its:List ItV} (hr:rises its) (most:Int) (kb:Nat) (n:Int):rises (putI its most kb n).2:=by
 unfold putI
 split
 ·exact hr
 ·rename_i h1
  split
  ·exact hr
  ·split
   ·rename_i h2;exact rises_set hr _ _ (plcB_lt h2)
   ·rename_i h2
    split
    ·exact hr
    ·exact rises_ins hr (by simpa using h1) n (by simpa using h2)
theorem putI_le {its:List ItV} {most:Int} (h:(its.length:Int)≤most) (kb:Nat) (n:Int):((putI its most kb n).2.length:Int)≤most:=by
 unfold putI
 split
 ·exact h
 ·split
  ·exact h
  ·split
   ·simpa using h
   ·split
    ·exact h
    ·have:=plcI_le its kb
     simp;omega
theorem mostI_le (m:Int):mostI m≤64:=by unfold mostI;omega
theorem mostI_ge (m:Int):0≤mostI m:=by unfold mostI;omega

end Go.Proofs.YtdeeoddacnealaaGreat