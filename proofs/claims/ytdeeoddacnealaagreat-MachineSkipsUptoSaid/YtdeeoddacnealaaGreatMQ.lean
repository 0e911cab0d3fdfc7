/- Several texts as one: QI RK QB QT QU QW. -/
import Derived.Test.YtdeeoddacnealaaGreatQ0
import Derived.Test.YtdeeoddacnealaaGreatMV
import Derived.Test.YtdeeoddacnealaaGreatChecked
import Derived.WalkLawsBesides
import Derived.WalkSpells
import Derived.Outline
import Derived.Deep.RegionLaw
import Derived.Lib.Overlaps
import Derived.Laws.Externs
import Derived.Test.YtdeeoddacnealaaGreatMC0
import Derived.Test.YtdeeoddacnealaaGreatMR
import Derived.Test.YtdeeoddacnealaaGreatMNL
import Derived.StillTailTactics
set_option linter.unusedVariables false
set_option linter.unusedSimpArgs false
namespace Go.Proofs.YtdeeoddacnealaaGreat.Q
open Go.RowKit

theorem hid' {p:Prop} (h:p):Hid p:=h

theorem vItemInfo:(Tryz.prog.info? 152).map (fun i=>(i.zero,i.size,i.bytes))=some (some (.agg #[.float .f64 0,.float .f64 0,.bool false,.bool false,.int .i64 0]),5,32):=by kernel_rfl

set_option maxRecDepth 100000 in
theorem vIns_end (v:Value) (vb B n:Nat) (cs xs:List Value) (w:World) (hB:B≤w.heap.size) (hown:w.ownsRow B 152 5 v n cs) (hn:n≤4294967296) (hxl:xs.length=5) (h1x:∀ u∈xs,u.oneCell'=true)
  (hx:∀ j u,xs[j]? = some u→w.cell? ((⟨vb,0,none⟩:Addr).add j)=some u) :
  ∃ v' w',w'.ownsRow B 152 5 v' (n+1) (cs++xs)∧Grew w w' v v' ∧
   Calls Tryz.prog 198 #[v,.int .i64 n,.slice (some ⟨vb,0,none⟩) 1 1] w fun e W=>e=.returned v'∧W=w':=by
 obtain ⟨i0,hi0,hz0,hzs,hzb⟩:=info_parts vItemInfo
 obtain ⟨v',w',hr,h2,h3⟩:=run_append_own2 w B 147 152 i0 _ 5 32 Tryz.underlying147 hi0 hz0 hzs hzb rfl (by omega) v n cs hown ⟨vb,0,none⟩ 1 1 xs (by omega) hx h1x (by omega) (by unfold maxLen;omega) (by omega) hB
 refine ⟨v',w',h2,h3,?_⟩
 clear h2 h3 hx h1x
 rcases hown.2 with ⟨rfl,rfl⟩|⟨g,cap,cur,rfl,hbg,hg,hnc,hcm,hcs,htake⟩
 ·clear hown
  go_enter Tryz.func198,Tryz.ntmps198
  go_wp2_with (at_builtin;refine Lib.wpList_append_run _ rfl _ _ _ _ rfl _ _ rfl rfl _ _ (hr _) ?_)
  go_ret
  exact ⟨rfl,rfl⟩
 ·clear hown hg hcs htake
  unfold maxLen at hcm
  by_cases hcn:cap=n
  ·subst hcn
   go_enter Tryz.func198,Tryz.ntmps198
   go_wp2_with (at_builtin;refine Lib.wpList_append_run _ rfl _ _ _ _ rfl _ _ rfl rfl _ _ (hr _) ?_)
   all_goals (go_ret;exact ⟨rfl,rfl⟩)
  ·go_enter Tryz.func198,Tryz.ntmps198
   go_wp2_with (at_builtin;refine Lib.wpList_append_run _ rfl _ _ _ _ rfl _ _ rfl rfl _ _ (hr _) ?_)
   all_goals (go_ret;exact ⟨rfl,rfl⟩)

theorem cell_row {w:World} {g:Nat} {cur:Array Value} {t:TypeId} (h:w.heap[g]? = some (.cells cur t (0,0))) (j:Nat):w.cell? ⟨g,j,none⟩=cur[j]?:=cell_of_row w g j cur t (0,0) h
theorem addr0 (g j:Nat):(⟨g,0,none⟩:Addr).add j=⟨g,j,none⟩:=by rw [Addr.add_lit,Nat.zero_add]

set_option maxRecDepth 100000 in
theorem vIns_shift (g n c i vb:Nat) (cur:Array Value) (xs:List Value) (w:World) (hi:i<n) (hroom:n+1≤c) (hc:c≤9223372036854775807) (hvb:vb≠g)
  (hg:w.heap[g]? = some (.cells cur 152 (0,0))) (hcur:cur.size=c * 5) (h1c:∀ u∈cur.toList.take (n * 5),u.oneCell'=true) (hxl:xs.length=5) (h1x:∀ u∈xs,u.oneCell'=true)
  (hv:w.heap[vb]? = some (.cells xs.toArray 152 (0,0))) :
  Calls Tryz.prog 198 #[.slice (some ⟨g,0,none⟩) n c,.int .i64 i,.slice (some ⟨vb,0,none⟩) 1 1] w fun e W=>e=.returned (.slice (some ⟨g,0,none⟩) (n+1) c)∧w.grownBy W (some g) ∧
   ∃ cur':Array Value,W.heap[g]? = some (.cells cur' 152 (0,0))∧cur'.size=cur.size∧cur'.toList.take ((n+1) * 5)=cur.toList.take (i * 5)++xs++(cur.toList.take (n * 5)).drop (i * 5):=by
 obtain ⟨i0,hi0,hz0,hzs,hzb⟩:=info_parts vItemInfo
 have hsz:(Tryz.prog.info? 152).map (·.size)=some 5:=by rw [hi0];simp [hzs]
 obtain ⟨mid,hmid⟩:∃ mid,mid=(cur.toList.take (n * 5)).drop (i * 5):=⟨_,rfl⟩
 have hml:mid.length=(n-i) * 5:=by rw [hmid];simp;omega
 have h1m:∀ u∈mid,u.oneCell'=true:=fun u hu=>h1c u (by rw [hmid] at hu;exact List.mem_of_mem_drop hu)
 have hmc:∀ j u,mid[j]? = some u→w.drew.cell? ((⟨g,i * 5,none⟩:Addr).add j)=some u:=fun j u hj=>by
  rw [hmid,List.getElem?_drop,List.getElem?_take] at hj
  split at hj
  ·rw [Addr.add_lit]
   show w.cell? _=_
   rw [cell_row hg];simpa using hj
  ·cases hj
 have hcp1:=fun ty dc sc=>run_copy_rowK (P:=Tryz.prog) w.drew 147 147 ty 152 5 g ((i+1) * 5) (n-i) dc ⟨g,i * 5,none⟩ (n+1-i) sc cur 152 mid Tryz.underlying147 hsz (show w.drew.heap[g]? = _ from hg)
  (by rw [hml];simp only [Nat.min_def];split <;> omega) hmc (by rw [hml,hcur];omega) h1m
 obtain ⟨R1,hR1⟩:∃ R1:Array Value,R1=(cur.toList.take ((i+1) * 5)++mid++cur.toList.drop ((i+1) * 5+mid.length)).toArray:=⟨_,rfl⟩
 rw [←hR1] at hcp1
 have hR1s:R1.size=cur.size:=by rw [hR1];simp [hml,hcur];omega
 obtain ⟨w1,hw1⟩:∃ w1,w1=w.drew.setRow g R1:=⟨_,rfl⟩
 rw [←hw1] at hcp1
 have hg1:w1.heap[g]? = some (.cells R1 152 (0,0)):=by rw [hw1];exact setRow_heap w.drew g cur _ _ (0,0) hg
 have hv1:w1.heap[vb]? = some (.cells xs.toArray 152 (0,0)):=by rw [hw1,setRow_other _ _ _ _ hvb];exact hv
 have hcp2:=fun ty dc=>run_copy_rowK (P:=Tryz.prog) w1 147 147 ty 152 5 g (i * 5) (n+1-i) dc ⟨vb,0,none⟩ 1 1 R1 152 xs Tryz.underlying147 hsz hg1
  (by rw [hxl];simp only [Nat.min_def];split <;> omega) (fun j u hj=>by rw [addr0,cell_row hv1];simpa using hj) (by rw [hxl,hR1s,hcur];omega) h1x
 obtain ⟨R2,hR2⟩:∃ R2:Array Value,R2=(R1.toList.take (i * 5)++xs++R1.toList.drop (i * 5+xs.length)).toArray:=⟨_,rfl⟩
 rw [←hR2] at hcp2
 have fin:w.grownBy (w1.setRow g R2) (some g)∧∃ cur':Array Value,(w1.setRow g R2).heap[g]? = some (.cells cur' 152 (0,0))∧cur'.size=cur.size∧cur'.toList.take ((n+1) * 5)=cur.toList.take (i * 5)++xs++(cur.toList.take (n * 5)).drop (i * 5):=by
  refine ⟨?_,R2,setRow_heap w1 g R1 _ _ (0,0) hg1,by rw [hR2];simp [hxl,hR1s,hcur];omega,?_⟩
  ·rw [hw1]
   have a1:=grownBy_setRow w.drew g R1
   have a2:=grownBy_setRow (w.drew.setRow g R1) g R2
   exact ⟨rfl,rfl,rfl,by simp,fun k hk hne=>(a2.block k (by simpa using hk) hne).trans (a1.block k hk hne)⟩
  ·have:=ins_list cur.toList mid xs (cur.toList.drop ((i+1) * 5+mid.length)) (i * 5) (by simp [hxl,hcur];omega) ((n+1) * 5) (by rw [hxl,hml];omega)
   rw [←hmid,←this,hR2,hR1]
   simp only [hxl,show (i+1) * 5=i * 5+5 by omega]
 have hov:∀ lb cb,(callFunc 238 #[.slice (some ⟨vb,0,none⟩) 1 1,.slice (some ⟨g,(i+1) * 5,none⟩) lb cb]).run Tryz.prog w=.ok (.value (.bool false)) w:=fun lb cb=>by
  rw [run_callFunc_extern Tryz.func238 (by kernel_rfl) (by kernel_rfl) (by kernel_rfl) (e:=Extern.SlicesOverlaps.overlaps #[147,147] #[4]) (by kernel_rfl),
   Lib.run_overlaps_apart w 147 4 152 Tryz.underlying147 5 Tryz.sizeOf152 ⟨vb,0,none⟩ ⟨g,(i+1) * 5,none⟩ 1 1 lb cb hvb 152 152 5 cur.size (by simp [World.shape?,hv,hxl]) (by simp [World.shape?,hg]) (by omega) (by simp [World.frozen?,hv]) (by simp [World.frozen?,hv])]
  rfl
 have hb2:¬(c=i+1):=by omega
 have hb4:¬(c=i):=by omega
 have hz3:((i:Int) == (n:Int))=false:=by simp;omega
 have hroom':decide ((c:Int)<(n:Int)+1)=false:=by simp;omega
 have hwrap:IntKind.i64.wrap ((i:Int)+1)=(i:Int)+1:=by rw [IntKind.wrap_i64];omega
 have hb1:(0:Int)≤(i:Int)+1:=by omega
 have hin:i≤n:=by omega
 have htn:((i:Int)+1).toNat=i+1:=by omega
 have hb3:(i:Int)≤(n:Int)+1:=by omega
 have hfin:=hid' fin
 clear fin hR2 hv1 hg1 hR1s hmc h1m hml hmid hv hxl h1x hg hcur h1c hR1
 have hW1:=hid' hw1
 clear hw1
 go_enter Tryz.func198,Tryz.ntmps198
 go_wp2_with (simp only [hov])
 go_region_law (refine step_copy_runI rfl _ _ 147 147 rfl _ _ (by simp [Act.eval,Act.put]) (by simp [Act.eval,Act.put]) (hcp1 _ _ _) ?_)
 go_wp2_with (at_builtin;refine wpList_copy_runI _ rfl _ _ 147 147 rfl _ _ rfl rfl (hcp2 _ _) ?_)
 go_ret
 exact ⟨rfl,hfin.out⟩

set_option maxRecDepth 100000 in
theorem vIns_grow (g n i vb:Nat) (cur:Array Value) (xs:List Value) (w:World) (hi:i<n) (hn:n≤4294967296)
  (hg:w.heap[g]? = some (.cells cur 152 (0,0))) (hcur:cur.size=n * 5) (h1c:∀ u∈cur.toList.take (n * 5),u.oneCell'=true) (hxl:xs.length=5) (h1x:∀ u∈xs,u.oneCell'=true)
  (hv:w.heap[vb]? = some (.cells xs.toArray 152 (0,0))) :
  ∃ G,n+1≤G∧G≤maxLen∧Calls Tryz.prog 198 #[.slice (some ⟨g,0,none⟩) n n,.int .i64 i,.slice (some ⟨vb,0,none⟩) 1 1] w fun e W=>e=.returned (.slice (some ⟨w.heap.size,0,none⟩) (n+1) G)∧w.grownBy W (some g) ∧
   ∃ cur':Array Value,W.heap[w.heap.size]? = some (.cells cur' 152 (0,0))∧cur'.size=G * 5∧cur'.toList.take ((n+1) * 5)=cur.toList.take (i * 5)++xs++(cur.toList.take (n * 5)).drop (i * 5):=by
 obtain ⟨i0,hi0,hz0,hzs,hzb⟩:=info_parts vItemInfo
 have hsz:(Tryz.prog.info? 152).map (·.size)=some 5:=by rw [hi0];simp [hzs]
 have hgN:g<w.heap.size:=(Array.getElem?_eq_some_iff.1 hg).1
 have hvN:vb<w.heap.size:=(Array.getElem?_eq_some_iff.1 hv).1
 obtain ⟨N,hN⟩:∃ N,N=w.heap.size:=⟨_,rfl⟩
 obtain ⟨mid,hmid⟩:∃ mid,mid=(cur.toList.take (n * 5)).drop (i * 5):=⟨_,rfl⟩
 have hml:mid.length=(n-i) * 5:=by rw [hmid];simp;omega
 have h1m:∀ u∈mid,u.oneCell'=true:=fun u hu=>h1c u (by rw [hmid] at hu;exact List.mem_of_mem_drop hu)
 have hol:(cur.toList.take (i * 5)).length=i * 5:=by simp;omega
 have hold:(Builtin.firstCells i0.size i (.slice (some ⟨g,0,none⟩) i n)).run Tryz.prog w.drew=.ok (cur.toList.take (i * 5)).toArray w.drew:=by
  rw [hzs]
  exact run_firstCells_some w.drew 5 i ⟨g,0,none⟩ i n (cur.toList.take (i * 5)) (by rw [hol]) (fun j v hj=>by
   rw [addr0]
   show w.cell? _=_
   rw [cell_row hg]
   rw [List.getElem?_take] at hj
   split at hj
   ·simpa using hj
   ·cases hj)
 obtain ⟨G,hG⟩:∃ G,G=grownCap w (n+1) n 152:=⟨_,rfl⟩
 have hGn:n+1≤G:=by rw [hG];exact grownCap_ge w _ _ _
 have hGm:G≤maxLen:=by rw [hG];exact grownCap_le_maxLen w (n+1) n 152 (by unfold maxLen;omega)
 refine ⟨G,hGn,hGm,?_⟩
 unfold maxLen at hGm
 have hkk:(n:Int)+1-(i:Int)=((n+1-i:Nat):Int):=by omega
 have hik:i+(n+1-i)=n+1:=by omega
 obtain ⟨R0,hR0⟩:∃ R0:Array Value,R0=(cur.toList.take (i * 5)).toArray++Builtin.zeroCells (Value.agg #[.float .f64 0,.float .f64 0,.bool false,.bool false,.int .i64 0]).cells (n+1-i)++Builtin.zeroCells (Value.agg #[.float .f64 0,.float .f64 0,.bool false,.bool false,.int .i64 0]).cells (G-(n+1)):=⟨_,rfl⟩
 have hR0s:R0.size=G * 5:=by
  rw [hR0];simp only [Array.size_append,List.size_toArray,hol,size_zeroCells,Value.cells]
  simp;omega
 have hrz:∀ ty,(Builtin.append_ #[147,3] ty #[.slice (some ⟨g,0,none⟩) i n,.int .i64 ((n:Int)+1-(i:Int))]).run Tryz.prog w =
   .ok (.slice (some ⟨N,0,none⟩) (n+1) G) (w.drew.alloc (.cells R0 152)):=fun ty=>by
  have h:=Lib.run_append_grow_zeros w 147 3 ty 152 i0 _ .i64 .i64 Tryz.underlying147 Tryz.underlying3 hi0 hz0 (some ⟨g,0,none⟩) i n (cur.toList.take (i * 5)) hold (n+1-i) (by omega) (by omega) (by omega) (by omega) (by rw [hzb];omega)
   (by rw [hzb,hik];exact growslice_fits (by omega) (by omega))
  rw [hik] at h
  rw [hkk,hN,hR0,hG]
  exact h
 obtain ⟨w1,hw1⟩:∃ w1,w1=w.drew.alloc (.cells R0 152):=⟨_,rfl⟩
 have h1:w1.heap[N]? = some (.cells R0 152 (0,0)):=by rw [hw1,hN];exact heap_alloc_new w.drew _
 have hold1:∀ k,k<w.heap.size→w1.heap[k]? = w.heap[k]?:=fun k hk=>by
  rw [hw1];exact (World.grownBy_alloc w.drew (.cells R0 152) none).block k hk (by simp)
 have hv1:w1.heap[vb]? = some (.cells xs.toArray 152 (0,0)):=by rw [hold1 vb hvN];exact hv
 have hg1:w1.heap[g]? = some (.cells cur 152 (0,0)):=by rw [hold1 g hgN];exact hg
 obtain ⟨R1,hR1⟩:∃ R1:Array Value,R1=(R0.toList.take (i * 5)++xs++R0.toList.drop (i * 5+xs.length)).toArray:=⟨_,rfl⟩
 have hR1s:R1.size=G * 5:=by rw [hR1];simp [hxl,hR0s];omega
 have hcpA:∀ W:World,W.heap=w1.heap→∀ ty dc,(Builtin.copy_ #[147,147] ty #[.slice (some ⟨N,i * 5,none⟩) (n+1-i) dc,.slice (some ⟨vb,0,none⟩) 1 1]).run Tryz.prog W=.ok (goInt (Nat.min 1 (n+1-i))) (W.setRow N R1):=fun W hW ty dc=>by
  rw [hR1]
  exact run_copy_rowK (P:=Tryz.prog) W 147 147 ty 152 5 N (i * 5) (n+1-i) dc ⟨vb,0,none⟩ 1 1 R0 152 xs Tryz.underlying147 hsz (by rw [hW];exact h1)
   (by rw [hxl];simp only [Nat.min_def];split <;> omega) (fun j u hj=>by rw [addr0,cell_row (by rw [hW];exact hv1)];simpa using hj) (by rw [hxl,hR0s];omega) h1x
 obtain ⟨R2,hR2⟩:∃ R2:Array Value,R2=(R1.toList.take ((i+1) * 5)++mid++R1.toList.drop ((i+1) * 5+mid.length)).toArray:=⟨_,rfl⟩
 obtain ⟨w2,hw2⟩:∃ w2,w2=w1.setRow N R1:=⟨_,rfl⟩
 have h2:w2.heap[N]? = some (.cells R1 152 (0,0)):=by rw [hw2];exact setRow_heap w1 N R0 _ _ (0,0) h1
 have hg2:w2.heap[g]? = some (.cells cur 152 (0,0)):=by rw [hw2,setRow_other _ _ _ _ (by omega)];exact hg1
 have hcpB:∀ W:World,W.heap=w2.heap→∀ ty dc sc,(Builtin.copy_ #[147,147] ty #[.slice (some ⟨N,(i+1) * 5,none⟩) (n-i) dc,.slice (some ⟨g,i * 5,none⟩) (n-i) sc]).run Tryz.prog W=.ok (goInt (Nat.min (n-i) (n-i))) (W.setRow N R2):=fun W hW ty dc sc=>by
  rw [hR2]
  exact run_copy_rowK (P:=Tryz.prog) W 147 147 ty 152 5 N ((i+1) * 5) (n-i) dc ⟨g,i * 5,none⟩ (n-i) sc R1 152 mid Tryz.underlying147 hsz (by rw [hW];exact h2)
   (by rw [hml];simp only [Nat.min_def];split <;> omega) (fun j u hj=>by
    rw [hmid,List.getElem?_drop,List.getElem?_take] at hj
    split at hj
    ·rw [Addr.add_lit,cell_row (by rw [hW];exact hg2)];simpa using hj
    ·cases hj) (by rw [hml,hR1s];omega) h1m
 have fin:∀ W:World,W.os=w.os→W.tape=w.tape→W.output=w.output→W.heap=(w2.setRow N R2).heap→w.grownBy W (some g)∧∃ cur':Array Value,W.heap[w.heap.size]? = some (.cells cur' 152 (0,0))∧cur'.size=G * 5∧cur'.toList.take ((n+1) * 5)=cur.toList.take (i * 5)++xs++(cur.toList.take (n * 5)).drop (i * 5):=by
  intro W q1 q2 q3 q4
  have hsz2:w.heap.size≤W.heap.size:=by rw [q4,hw2,hw1];simp
  refine ⟨⟨q1,q2,q3,hsz2,fun k hk _=>?_⟩,R2,?_,by rw [hR2];simp [hml,hR1s];omega,?_⟩
  ·rw [q4,setRow_other _ _ _ _ (by omega),hw2,setRow_other _ _ _ _ (by omega)];exact hold1 k hk
  ·rw [q4,←hN];exact setRow_heap w2 N R1 _ _ (0,0) h2
  ·have e0:R0.toList.take (i * 5)=cur.toList.take (i * 5):=by
    rw [hR0]
    simp only [Array.toList_append,List.append_assoc]
    rw [List.take_append_of_le_length (by rw [hol];exact Nat.le_refl _),List.take_of_length_le (by rw [hol];exact Nat.le_refl _)]
   rw [hR2,←hmid]
   have el:(R1.toList.take ((i+1) * 5))=cur.toList.take (i * 5)++xs:=by
    rw [hR1,e0]
    show ((cur.toList.take (i * 5)++xs)++_).take _=_
    have hl:(cur.toList.take (i * 5)++xs).length=(i+1) * 5:=by rw [List.length_append,hol,hxl];omega
    rw [←hl,List.take_left]
   rw [el]
   show ((cur.toList.take (i * 5)++xs++mid)++_).take _=_
   have hl:(cur.toList.take (i * 5)++xs++mid).length=(n+1) * 5:=by rw [List.length_append,List.length_append,hol,hxl,hml];omega
   rw [←hl,List.take_left]
 have hb4:¬(n=i):=by omega
 have hz3:((i:Int) == (n:Int))=false:=by simp;omega
 have hroom':decide ((n:Int)<(n:Int)+1)=true:=by simp;omega
 have hwrap:IntKind.i64.wrap ((i:Int)+1)=(i:Int)+1:=by rw [IntKind.wrap_i64];omega
 have hb1:(0:Int)≤(i:Int)+1:=by omega
 have hin:i≤n:=by omega
 have hin1:i≤n+1:=by omega
 have htn:((i:Int)+1).toNat=i+1:=by omega
 have hb3:(i:Int)≤(n:Int):=by omega
 have hGi:¬(G=i):=by omega
 have hGim:¬(G=i+1):=by omega
 have hW1:=hid' hw1
 have hW2:=hid' hw2
 have hNN:=hid' hN
 rw [hw1] at hcpA hw2
 rw [hw2] at hcpB fin
 clear hw1 hw2 hN hR2 hR1 hR0 hG hcur h1c hxl h1x hv hg h1 hv1 hg1 h2 hg2 hml h1m hmid hol hold hkk hik hR0s hR1s hold1 hi0 hz0 hzs hzb hsz
 have hfin:=hid' fin
 clear fin
 have hcpA':=hcpA ((w.alloc (.cells R0 152)).drew) rfl
 have hcpB':=hcpB ((((w.alloc (.cells R0 152)).drew).setRow N R1).drew) rfl
 clear hcpA hcpB
 go_enter Tryz.func198,Tryz.ntmps198
 go_wp2_with (at_builtin;refine Lib.wpList_append_run _ rfl _ _ _ _ rfl _ _ rfl rfl _ _ (hrz _) ?_)
 go_region_law (refine step_copy_runI rfl _ _ 147 147 rfl _ _ (by simp [Act.eval,Act.put]) (by simp [Act.eval,Act.put]) (hcpB' _ _ _) ?_)
 go_wp2
 go_ret
 exact ⟨by rw [←hNN.out];rfl,hfin.out _ rfl rfl rfl rfl⟩

def InsRet (w:World) (B:Nat) (T:TypeId) (K:Nat) (v:Value) (n:Nat) (cs:List Value) (e:Ending) (W:World):Prop:=∃ v',e=.returned v'∧W.ownsRow B T K v' n cs∧Grew w W v v'

theorem vInsert (v:Value) (vb B n i:Nat) (cs xs:List Value) (w:World) (hB:B≤w.heap.size) (hown:w.ownsRow B 152 5 v n cs) (hn:n≤4294967296) (hi:i≤n) (h1c:∀ u∈cs,u.oneCell'=true) (hxl:xs.length=5) (h1x:∀ u∈xs,u.oneCell'=true)
  (hv:w.heap[vb]? = some (.cells xs.toArray 152 (0,0))) (hvb:v.ownBlock≠some vb) :
  Calls Tryz.prog 198 #[v,.int .i64 i,.slice (some ⟨vb,0,none⟩) 1 1] w (InsRet w B 152 5 v (n+1) (cs.take (i * 5)++xs++cs.drop (i * 5))):=by
 have hcl:cs.length=n * 5:=hown.1
 by_cases hin:i=n
 ·subst hin
  obtain ⟨v',w',h1,h2,h3⟩:=vIns_end v vb B i cs xs w hB hown hn hxl h1x (fun j u hj=>by rw [addr0,cell_row hv];simpa using hj)
  refine h3.mono fun e W ⟨he,hW⟩=>?_
  subst hW
  refine ⟨v',he,?_,h2⟩
  rw [List.take_of_length_le (by omega),List.drop_of_length_le (by omega),List.append_nil]
  exact h1
 ·have hlt:i<n:=by omega
  rcases hown.2 with ⟨rfl,h0⟩|⟨g,cap,cur,rfl,hbg,hg,hnc,hcm,hcs,htake⟩
  ·subst h0;simp at hcl;omega
  ·have hvg:vb≠g:=fun h=>hvb (by subst h;rfl)
   have htk:cur.toList.take (n * 5)=cs:=htake
   by_cases hroom:n+1≤cap
   ·refine (vIns_shift g n cap i vb cur xs w hlt hroom (by unfold maxLen at hcm;omega) hvg hg hcs (by rw [htk];exact h1c) hxl h1x hv).mono fun e W ⟨he,hgr,cur',q1,q2,q3⟩=>?_
    have e1:cur.toList.take (i * 5)=cs.take (i * 5):=by rw [←htk,List.take_take,Nat.min_eq_left (by omega)]
    rw [htk,e1] at q3
    have hl3:(cs.take (i * 5)++xs++cs.drop (i * 5)).length=(n+1) * 5:=by simp [hxl,hcl];omega
    exact ⟨_,he,⟨hl3,.inr ⟨g,cap,cur',rfl,hbg,q1,hroom,hcm,by rw [q2,hcs],q3⟩⟩,hgr,.inl rfl⟩
   ·obtain rfl:cap=n:=by omega
    obtain ⟨G,g1,g2,h3⟩:=vIns_grow g cap i vb cur xs w hlt hn hg hcs (by rw [htk];exact h1c) hxl h1x hv
    refine h3.mono fun e W ⟨he,hgr,cur',q1,q2,q3⟩=>?_
    have e1:cur.toList.take (i * 5)=cs.take (i * 5):=by rw [←htk,List.take_take,Nat.min_eq_left (by omega)]
    rw [htk,e1] at q3
    have hl3:(cs.take (i * 5)++xs++cs.drop (i * 5)).length=(cap+1) * 5:=by simp [hxl,hcl];omega
    exact ⟨_,he,⟨hl3,.inr ⟨w.heap.size,G,cur',rfl,hB,q1,g1,g2,q2,q3⟩⟩,hgr,.inr (.inr ⟨w.heap.size,rfl,Nat.le_refl _⟩)⟩
end Go.Proofs.YtdeeoddacnealaaGreat.Q
namespace Go.Proofs.YtdeeoddacnealaaGreat
open Go.RowKit Fl

structure RK where
 lo:Key
 hi:Key
 le:lo.v≤hi.v
instance:Inhabited RK:=⟨⟨kzero,kzero,Int.le_refl _⟩⟩
def RK.rg (k:RK):Rg:=some (k.lo,k.hi)
theorem RK.ext' {a b:RK} (h1:a.lo=b.lo) (h2:a.hi=b.hi):a=b:=by cases a;cases b;simp only at h1 h2;subst h1;subst h2;rfl

def codeR:Rg→Int
 | none=>-1000000000000000000000000000000000000000000000
 | some (l,h)=>l.v * 36893488147419103232+h.v
theorem key_abs (k:Key):-9223372036854775808<k.v∧k.v<9223372036854775808:=by have:=k.lo;have:=k.hi;unfold inf at *;omega
theorem codeR_some (l h l' h':Key):codeR (some (l,h))<codeR (some (l',h'))↔l.v<l'.v∨(l.v=l'.v∧h.v<h'.v):=by
 have:=key_abs l;have:=key_abs h;have:=key_abs l';have:=key_abs h'
 simp only [codeR];omega
theorem codeR_inj (l h l' h':Key):codeR (some (l,h))=codeR (some (l',h'))↔l=l'∧h=h':=by
 have:=key_abs l;have:=key_abs h;have:=key_abs l';have:=key_abs h'
 constructor
 ·intro e
  simp only [codeR] at e
  exact ⟨Key.ext' (by omega),Key.ext' (by omega)⟩
 ·rintro ⟨rfl,rfl⟩;rfl
theorem codeR_none (l h:Key):codeR none<codeR (some (l,h)):=by
 have:=key_abs l;have:=key_abs h
 simp only [codeR];omega
theorem rk_inj {a b:RK} (h:codeR a.rg=codeR b.rg):a=b:=by
 obtain ⟨h1,h2⟩:=(codeR_inj _ _ _ _).1 h
 exact RK.ext' h1 h2
theorem cmpR_code (r s:Rg):cmpR r s=cmpI (codeR r) (codeR s):=by
 rcases r with _|⟨l,h⟩ <;> rcases s with _|⟨l',h'⟩
 ·simp [cmpR,cmpI]
 ·have:=codeR_none l' h'
  simp [cmpR,cmpI,this]
 ·have:=codeR_none l h
  simp [cmpR,cmpI,this];omega
 ·have h1:=codeR_some l h l' h'
  have h2:=codeR_some l' h' l h
  unfold cmpR orI cmpI
  simp only [h1,h2]
  rcases Int.lt_trichotomy l.v l'.v with e|e|e
  ·rw [if_pos e];simp [e]
  ·rw [e];simp
  ·rw [if_neg (by omega),if_pos e];simp [e];omega

end Go.Proofs.YtdeeoddacnealaaGreat
namespace Go.Proofs.YtdeeoddacnealaaGreat.Q
open Go.RowKit Fl

structure ItV where
 k:RK
 n:Int
instance:Inhabited ItV:=⟨⟨default,0⟩⟩
def ItV.enc (x:ItV):List Value:=[.float .f64 x.k.lo.bits,.float .f64 x.k.hi.bits,.bool false,.bool false,.int .i64 x.n]
theorem ItV.enc_len (x:ItV):x.enc.length=5:=rfl
theorem ItV.enc_one (x:ItV):∀ u∈x.enc,u.oneCell'=true:=by intro u hu;simp [ItV.enc] at hu;rcases hu with rfl|rfl|rfl|rfl|rfl <;> rfl

theorem cmp_rg (k:RK) (kb:Rg) (w:World) (hk:okR kb) :
  Calls Tryz.prog 159 #[.agg #[.float .f64 k.lo.bits,.float .f64 k.hi.bits,.bool false,.bool false],.agg #[.float .f64 (slo kb),.float .f64 (shi kb),.bool (sop kb),.bool (sop kb)]] w (Ret (.int .i64 (cmpI (codeR k.rg) (codeR kb))) w):=by
 have h:=cmp_any k.lo.bits k.hi.bits (slo kb) (shi kb) false false (sop kb) (sop kb) w (Key.bits_lt _) (Key.bits_lt _) (slo_lt kb) (shi_lt kb)
 rw [canonS_canon _ _ k.le,canonS_gen hk,cmpR_code] at h
 exact h
theorem vPlace1_any (k:RK) (n:Int) (kb:Rg) (w:World) (hk:okR kb) :
  Calls Tryz.prog 197 #[.agg #[.float .f64 k.lo.bits,.float .f64 k.hi.bits,.bool false,.bool false,.int .i64 n],.agg #[.float .f64 (slo kb),.float .f64 (shi kb),.bool (sop kb),.bool (sop kb)]] w (Ret (.int .i64 (cmpI (codeR k.rg) (codeR kb))) w):=by
 have H:=fun W=>cmp_rg k kb W hk
 generalize cmpI (codeR k.rg) (codeR kb)=r at *
 generalize slo kb=a at *
 generalize shi kb=b at *
 generalize sop kb=c at *
 go_enter Tryz.func197,Tryz.ntmps197
 go_wp2_with (go_at_call 159;with_reducible refine mQ (H _) ?_;intro w1 hb1 hc1 hf1 hz1;intros)
 go_ret
 exact ⟨rfl,by exact below_auto⟩

def plcI (its:List ItV) (kb:Rg):Nat:=its.findIdx fun x=>!decide (codeR x.k.rg<codeR kb)
def plcB (its:List ItV) (kb:Rg):Bool:=match its[plcI its kb]? with|some x=>decide (codeR x.k.rg=codeR kb)|none=>false

set_option maxRecDepth 100000 in
theorem vSearch_row (b c n:Nat) (kb:Rg) (its:List ItV) (w:World) (hk:okR kb) (hn:its.length=n) (hlen:n≤4294967296)
  (hb:b<w.heap.size) (hc:∀ i,i<its.length→w.cell? ⟨b,i * 5,none⟩=some (.float .f64 (its[i]?.getD default).k.lo.bits)∧w.cell? ⟨b,i * 5+1,none⟩=some (.float .f64 (its[i]?.getD default).k.hi.bits)∧w.cell? ⟨b,i * 5+2,none⟩=some (.bool false)∧w.cell? ⟨b,i * 5+3,none⟩=some (.bool false)∧w.cell? ⟨b,i * 5+4,none⟩=some (.int .i64 (its[i]?.getD default).n))
  (hmono:∀ s t:Nat,s≤t→∀ x y,its[s]? = some x→its[t]? = some y→codeR y.k.rg<codeR kb→codeR x.k.rg<codeR kb) :
  Calls Tryz.prog 196 #[.slice (some ⟨b,0,none⟩) n c,.agg #[.float .f64 (slo kb),.float .f64 (shi kb),.bool (sop kb),.bool (sop kb)],.func (.func 197) #[] #[]] w (Ret (.tuple #[.int .i64 (plcI its kb),.bool (plcB its kb)]) w):=by
 have HC:=hid hc;have HN:=hid hn;have HM:=hid hmono
 have HK:=hid hk
 clear hc hn hmono hk
 go_enter Tryz.func196,Tryz.ntmps196
 obtain ⟨W0,hW0⟩:∃ W0,W0=w.alloc (.cells #[.float .f64 (slo kb),.float .f64 (shi kb),.bool (sop kb),.bool (sop kb)] 150):=⟨_,rfl⟩
 have hB0:Below w.heap.size w W0:=by rw [hW0];exact below_auto
 have hz0:W0.heap.size=w.heap.size+1:=by rw [hW0];simp
 have s0:W0.cell? ⟨w.heap.size,0,none⟩=some (.float .f64 (slo kb)):=by rw [hW0];simp [go_sem]
 have s1:W0.cell? ⟨w.heap.size,1,none⟩=some (.float .f64 (shi kb)):=by rw [hW0];simp [go_sem]
 have s2:W0.cell? ⟨w.heap.size,2,none⟩=some (.bool (sop kb)):=by rw [hW0];simp [go_sem]
 have s3:W0.cell? ⟨w.heap.size,3,none⟩=some (.bool (sop kb)):=by rw [hW0];simp [go_sem]
 have hbx:w.heap.size<W0.heap.size:=by omega
 have hb0:b<W0.heap.size:=by omega
 go_wp2
 rw [←hW0]
 clear hW0
 go_loopw [9,10] (fun i j wr=>∃ s t:Nat,s≤t∧t≤n∧i=.int .i64 s∧j=.int .i64 t∧Hid (∀ m:Nat,m<s→∀ x,its[m]? = some x→codeR x.k.rg<codeR kb)∧Hid (∀ m:Nat,t≤m→∀ x,its[m]? = some x→codeR kb≤codeR x.k.rg)∧Below W0.heap.size W0 wr) (fun i j _=>(intOf j).toNat-(intOf i).toNat)
 case atStart=>exact ⟨0,n,Nat.zero_le _,Nat.le_refl _,rfl,rfl,hid fun m hm=>absurd hm (Nat.not_lt_zero _),hid fun m hm x hx=>by have:=(List.getElem?_eq_some_iff.1 hx).1;have:=HN.out;omega,Below.refl _ _⟩
 case round =>
  obtain ⟨s,t,hst,htn,rfl,rfl,HA,HZ,hbw⟩:=hrel
  have hsz:=hbw.size
  have hyb:w.heap.size<wr.heap.size:=by omega
  have e0:=(hbw.cell (p:=⟨w.heap.size,_,none⟩) hbx).trans s0
  have e1:=(hbw.cell (p:=⟨w.heap.size,_,none⟩) hbx).trans s1
  have e2:=(hbw.cell (p:=⟨w.heap.size,_,none⟩) hbx).trans s2
  have e3:=(hbw.cell (p:=⟨w.heap.size,_,none⟩) hbx).trans s3
  by_cases hlt:s<t
  ·have hlt':(s:Int)<(t:Int):=by omega
   have hh1:s≤(s+t) / 2:=by omega
   have hh2:(s+t) / 2<t:=by omega
   have hmt:(s+t) / 2<its.length:=by rw [HN.out];omega
   obtain ⟨c0,c1,c2,c3,c4⟩:=HC.out ((s+t) / 2) hmt
   have hkx:Hid (its[(s+t) / 2]? = some (its[(s+t) / 2]?.getD default)):=hid (by rw [List.getElem?_eq_getElem hmt];rfl)
   have d0:=(hbw.cell (p:=⟨b,_,none⟩) hb0).trans ((hB0.cell (p:=⟨b,_,none⟩) hb).trans c0)
   have d1:=(hbw.cell (p:=⟨b,_,none⟩) hb0).trans ((hB0.cell (p:=⟨b,_,none⟩) hb).trans c1)
   have d2:=(hbw.cell (p:=⟨b,_,none⟩) hb0).trans ((hB0.cell (p:=⟨b,_,none⟩) hb).trans c2)
   have d3:=(hbw.cell (p:=⟨b,_,none⟩) hb0).trans ((hB0.cell (p:=⟨b,_,none⟩) hb).trans c3)
   have d4:=(hbw.cell (p:=⟨b,_,none⟩) hb0).trans ((hB0.cell (p:=⟨b,_,none⟩) hb).trans c4)
   clear c0 c1 c2 c3 c4
   generalize its[(s+t) / 2]?.getD default=x at *
   have H:=fun W=>vPlace1_any x.k x.n kb W HK.out
   have hbb:b<wr.heap.size:=by omega
   by_cases hc:codeR x.k.rg<codeR kb
   ·have hr:cmpI (codeR x.k.rg) (codeR kb) = -1:=by simp [cmpI,hc]
    have hcH:=hid hc
    simp only [hr] at H
    clear hr hc
    go_wp2_with fail
    (refine wp_region_ext (by kernel_rfl) (by kernel_rfl) ?_;(repeat (go_big_quiet_step (first|(go_at_call 197;with_reducible exact Calls.ext_of (H _)))));refine mX ?_;intro w1 hb1 hc1 hf1 hz1;intros)
    go_wp2_with fail
    go_roundw
    case rel =>
     refine ⟨(s+t) / 2+1,t,by omega,htn,by first|go_num|(congr 1;omega),rfl,hid fun m hm y hy=>?_,HZ,by exact below_auto⟩
     exact HM.out m ((s+t) / 2) (by omega) y x hy hkx.out hcH.out
    case measure=>simp [intOf];omega
   ·have hr:decide (cmpI (codeR x.k.rg) (codeR kb)<0)=false:=by simp [cmpI,hc];split <;> omega
    have hcH:=hid hc
    generalize cmpI (codeR x.k.rg) (codeR kb)=r at *
    clear hc
    go_wp2_with fail
    (refine wp_region_ext (by kernel_rfl) (by kernel_rfl) ?_;(repeat (go_big_quiet_step (first|(go_at_call 197;with_reducible exact Calls.ext_of (H _)))));refine mX ?_;intro w1 hb1 hc1 hf1 hz1;intros)
    go_wp2_with fail
    go_roundw
    case rel =>
     refine ⟨s,(s+t) / 2,by omega,by omega,rfl,by first|go_num|(congr 1;omega),HA,hid fun m hm y hy=>?_,by exact below_auto⟩
     have:=HM.out ((s+t) / 2) m hm x y hkx.out hy
     have:=hcH.out
     omega
    case measure=>simp [intOf];omega
  ·obtain rfl:s=t:=by omega
   have hp:plcI its kb=s:=by
    unfold plcI
    by_cases hsn:s<its.length
    ·rw [List.findIdx_eq hsn]
     refine ⟨?_,fun j hj=>?_⟩
     ·have:=HZ.out s (Nat.le_refl _) _ (List.getElem?_eq_getElem hsn)
      simpa using this
     ·have:=HA.out j hj _ (List.getElem?_eq_getElem (by omega))
      simpa using this
    ·have hsn':s=its.length:=by have:=HN.out;omega
     rw [hsn']
     exact List.findIdx_eq_length.2 fun x hx=>by
      obtain ⟨j,hj⟩:=List.mem_iff_getElem?.1 hx
      have hjl:=(List.getElem?_eq_some_iff.1 hj).1
      have:=HA.out j (by omega) x hj
      simpa using this
   by_cases hsn:s<n
   ·have hsl:s<its.length:=by rw [HN.out];exact hsn
    have hsn':(s:Int)<(n:Int):=by omega
    obtain ⟨c0,c1,c2,c3,c4⟩:=HC.out s hsl
    have hkx:Hid (its[s]? = some (its[s]?.getD default)):=hid (by rw [List.getElem?_eq_getElem hsl];rfl)
    have d0:=(hbw.cell (p:=⟨b,_,none⟩) hb0).trans ((hB0.cell (p:=⟨b,_,none⟩) hb).trans c0)
    have d1:=(hbw.cell (p:=⟨b,_,none⟩) hb0).trans ((hB0.cell (p:=⟨b,_,none⟩) hb).trans c1)
    have d2:=(hbw.cell (p:=⟨b,_,none⟩) hb0).trans ((hB0.cell (p:=⟨b,_,none⟩) hb).trans c2)
    have d3:=(hbw.cell (p:=⟨b,_,none⟩) hb0).trans ((hB0.cell (p:=⟨b,_,none⟩) hb).trans c3)
    have d4:=(hbw.cell (p:=⟨b,_,none⟩) hb0).trans ((hB0.cell (p:=⟨b,_,none⟩) hb).trans c4)
    clear c0 c1 c2 c3 c4
    have hq:plcB its kb=decide (codeR (its[s]?.getD default).k.rg=codeR kb):=by
     unfold plcB;rw [hp,List.getElem?_eq_getElem hsl];rfl
    generalize its[s]?.getD default=x at *
    have hbb:b<wr.heap.size:=by omega
    have H:=fun W=>vPlace1_any x.k x.n kb W HK.out
    have he:decide (codeR x.k.rg=codeR kb)=(cmpI (codeR x.k.rg) (codeR kb) == 0):=by
     unfold cmpI;split
     ·simp;omega
     ·split
      ·simp;omega
      ·simp;omega
    rw [he] at hq
    have HP:=hid hp;have HQ:=hid hq
    clear hp hq he
    generalize cmpI (codeR x.k.rg) (codeR kb)=r at *
    go_wp2_with fail
    (refine wp_region_ext (by kernel_rfl) (by kernel_rfl) ?_;(repeat (go_big_quiet_step (first|(go_at_call 197;with_reducible exact Calls.ext_of (H _)))));refine mX ?_;intro w1 hb1 hc1 hf1 hz1;intros)
    go_wp2_with fail
    go_ret2
    exact ⟨by rw [HP.out,HQ.out];rfl,hB0.trans (Below.mono (B:=W0.heap.size) (by exact below_auto) (by omega))⟩
   ·have hsn':decide ((s:Int)<(n:Int))=false:=by simp;omega
    have hq:plcB its kb=false:=by
     unfold plcB;rw [hp,List.getElem?_eq_none (by have:=HN.out;omega)]
    have HP:=hid hp;have HQ:=hid hq
    clear hp hq
    go_wp2_with fail
    (refine wp_region_ext (by kernel_rfl) (by kernel_rfl) ?_;(repeat (go_big_quiet_step (first|fail)));refine mX ?_;intro w1 hb1 hc1 hf1 hz1;intros)
    go_wp2_with fail
    go_ret2
    exact ⟨by rw [HP.out,HQ.out];rfl,hB0.trans (Below.mono (B:=W0.heap.size) (by exact below_auto) (by omega))⟩

def itCells (its:List ItV):List Value:=its.flatMap ItV.enc
theorem itCells_len (its:List ItV):(itCells its).length=its.length * 5:=flat_len ItV.enc_len its
theorem itCells_one (its:List ItV):∀ u∈itCells its,u.oneCell'=true:=by
 intro u hu
 obtain ⟨x,_,hx⟩:=List.mem_flatMap.1 hu
 exact ItV.enc_one x u hx

structure TabAt (w:World) (B T:Nat) (v:Value) (most:Int) (its:List ItV):Prop where
 tab:w.heap[T]? = some (.cells #[.int .i64 most,v] 216 (0,0))
 own:w.ownsRow B 152 5 v its.length (itCells its)
 apart:v.ownBlock≠some T
 low:B≤T
 len:its.length≤64

theorem grown_of_below {w w':World} (h:Below w.heap.size w w'):w.grownBy w' none:=⟨h.os,h.tape,h.output,h.size,fun k hk _=>h.block k hk⟩
theorem TabAt.below {w w':World} {B T:Nat} {v:Value} {most:Int} {its:List ItV} (h:TabAt w B T v most its) (hb:Below w.heap.size w w'):TabAt w' B T v most its :=
 ⟨(hb.block T (Array.getElem?_eq_some_iff.1 h.tab).1).trans h.tab,h.own.kept (grown_of_below hb) (by cases v.ownBlock <;> simp),h.apart,h.low,h.len⟩
theorem TabAt.lt {w:World} {B T:Nat} {v:Value} {most:Int} {its:List ItV} (h:TabAt w B T v most its):T<w.heap.size:=(Array.getElem?_eq_some_iff.1 h.tab).1

structure Upd (w w':World) (T:Nat) (v v':Value):Prop where
 os:w'.os=w.os
 tape:w'.tape=w.tape
 output:w'.output=w.output
 size:w.heap.size≤w'.heap.size
 block:∀ k,k<w.heap.size→k≠T→some k≠v.ownBlock→w'.heap[k]? = w.heap[k]?
 own:v'.ownBlock=v.ownBlock∨v'.ownBlock=none∨∃ g,v'.ownBlock=some g∧w.heap.size≤g

def rises (its:List ItV):Prop:=its.Pairwise fun x y=>codeR x.k.rg<codeR y.k.rg

theorem rises_mono {its:List ItV} (h:rises its) (kb:Rg):∀ s t:Nat,s≤t→∀ x y,its[s]? = some x→its[t]? = some y→codeR y.k.rg<codeR kb→codeR x.k.rg<codeR kb:=by
 intro s t hst x y hx hy hlt
 rcases Nat.lt_or_ge s t with h1|h1
 ·have h2:=(List.pairwise_iff_getElem.1 h) s t (List.getElem?_eq_some_iff.1 hx).1 (List.getElem?_eq_some_iff.1 hy).1 h1
  rw [(List.getElem?_eq_some_iff.1 hx).2,(List.getElem?_eq_some_iff.1 hy).2] at h2
  omega
 ·obtain rfl:s=t:=by omega
  rw [hx] at hy;cases hy;exact hlt

theorem it_some {its:List ItV} {k:Nat} (h:k<its.length):its[k]? = some (its[k]?.getD default):=by rw [List.getElem?_eq_getElem h];rfl
theorem own_cells {w:World} {B g n c:Nat} {its:List ItV} (h:w.ownsRow B 152 5 (.slice (some ⟨g,0,none⟩) n c) n (itCells its)) (hn:its.length=n) :
  ∀ i,i<its.length→w.cell? ⟨g,i * 5,none⟩=some (.float .f64 (its[i]?.getD default).k.lo.bits)∧w.cell? ⟨g,i * 5+1,none⟩=some (.float .f64 (its[i]?.getD default).k.hi.bits)∧w.cell? ⟨g,i * 5+2,none⟩=some (.bool false)∧w.cell? ⟨g,i * 5+3,none⟩=some (.bool false)∧w.cell? ⟨g,i * 5+4,none⟩=some (.int .i64 (its[i]?.getD default).n):=by
 intro i hi
 have e:=it_some hi
 have h0:=h.cellAt (i * 5) (by omega)
 have h1:=h.cellAt (i * 5+1) (by omega)
 have h2:=h.cellAt (i * 5+2) (by omega)
 have h3:=h.cellAt (i * 5+3) (by omega)
 have h4:=h.cellAt (i * 5+4) (by omega)
 exact ⟨h0.trans ((flat_get ItV.enc_len e (j:=0) (by omega)).trans rfl),h1.trans ((flat_get ItV.enc_len e (j:=1) (by omega)).trans rfl),h2.trans ((flat_get ItV.enc_len e (j:=2) (by omega)).trans rfl),h3.trans ((flat_get ItV.enc_len e (j:=3) (by omega)).trans rfl),h4.trans ((flat_get ItV.enc_len e (j:=4) (by omega)).trans rfl)⟩

theorem vSearch_nil (kb:Rg) (w:World) :
  Calls Tryz.prog 196 #[.slice none 0 0,.agg #[.float .f64 (slo kb),.float .f64 (shi kb),.bool (sop kb),.bool (sop kb)],.func (.func 197) #[] #[]] w (Ret (.tuple #[.int .i64 0,.bool false]) w):=by
 go_enter Tryz.func196,Tryz.ntmps196
 go_wp2
 go_loopw [9,10] (fun i j wr=>i=.int .i64 0∧j=.int .i64 0∧Below w.heap.size w wr) (fun _ _ _=>0)
 case atStart=>exact ⟨rfl,rfl,by exact below_auto⟩
 case round =>
  obtain ⟨rfl,rfl,hbw⟩:=hrel
  have hz:=hbw.size
  go_wp2_with fail
  (refine wp_region_ext (by kernel_rfl) (by kernel_rfl) ?_;(repeat (go_big_quiet_step (first|fail)));refine mX ?_;intro w1 hb1 hc1 hf1 hz1;intros)
  go_wp2_with fail
  go_ret2
  exact ⟨rfl,by exact below_auto⟩

theorem vSearch_any {w:World} {B:Nat} {v:Value} {its:List ItV} (kb:Rg) (hk:okR kb) (hown:w.ownsRow B 152 5 v its.length (itCells its)) (hl:its.length≤64) (hr:rises its) :
  Calls Tryz.prog 196 #[v,.agg #[.float .f64 (slo kb),.float .f64 (shi kb),.bool (sop kb),.bool (sop kb)],.func (.func 197) #[] #[]] w (Ret (.tuple #[.int .i64 (plcI its kb),.bool (plcB its kb)]) w):=by
 have hown':=hown
 rcases hown.2 with ⟨rfl,h0⟩|⟨g,cap,cur,rfl,hbg,hg,hnc,hcm,hcs,htake⟩
 ·have:its=[]:=by
   have:=itCells_len its
   rw [h0] at this;simp at this
   exact List.eq_nil_of_length_eq_zero (by omega)
  subst this
  exact vSearch_nil kb w
 ·exact vSearch_row g cap its.length kb its w hk rfl (by omega) (Array.getElem?_eq_some_iff.1 hg).1 (own_cells hown' rfl) (rises_mono hr kb)

theorem own_slice {w:World} {B:Nat} {v:Value} {its:List ItV} (h:w.ownsRow B 152 5 v its.length (itCells its)):∃ va vc,v=.slice va its.length vc:=by
 rcases h.2 with ⟨rfl,h0⟩|⟨g,cap,cur,rfl,_⟩
 ·have:=itCells_len its
  rw [h0] at this;simp at this
  exact ⟨none,0,by rw [show its.length=0 by omega]⟩
 ·exact ⟨_,_,rfl⟩
theorem own_at {w:World} {B c n:Nat} {va:Option Addr} {its:List ItV} (h:w.ownsRow B 152 5 (.slice va n c) n (itCells its)) (hn:its.length=n) (h0:0<n) :
  ∃ g,va=some ⟨g,0,none⟩∧g<w.heap.size∧∀ i,i<n→w.cell? ⟨g,i * 5,none⟩=some (.float .f64 (its[i]?.getD default).k.lo.bits)∧w.cell? ⟨g,i * 5+1,none⟩=some (.float .f64 (its[i]?.getD default).k.hi.bits)∧w.cell? ⟨g,i * 5+2,none⟩=some (.bool false)∧w.cell? ⟨g,i * 5+3,none⟩=some (.bool false)∧w.cell? ⟨g,i * 5+4,none⟩=some (.int .i64 (its[i]?.getD default).n):=by
 rcases h.2 with ⟨hv,h1⟩|⟨g,cap,cur,hv,hbg,hg,hnc,hcm,hcs,htake⟩
 ·omega
 ·obtain ⟨rfl,rfl⟩:va=some ⟨g,0,none⟩∧c=cap:=by cases hv;exact ⟨rfl,rfl⟩
  subst hn
  exact ⟨g,rfl,(Array.getElem?_eq_some_iff.1 hg).1,own_cells h rfl⟩

theorem plcB_lt {its:List ItV} {kb:Rg} (h:plcB its kb=true):plcI its kb<its.length:=by
 unfold plcB at h
 cases e:its[plcI its kb]? with
 | none=>rw [e] at h;cases h
 | some x=>exact (List.getElem?_eq_some_iff.1 e).1
theorem plcI_le (its:List ItV) (kb:Rg):plcI its kb≤its.length:=List.findIdx_le_length

def atI (its:List ItV) (key:Nat):Int:=its.foldl (fun m x=>if hasB x.k.rg key=true then max m x.n else m) 0
theorem atI_snoc (its:List ItV) (x:ItV) (key:Nat):atI (its++[x]) key=if hasB x.k.rg key=true then max (atI its key) x.n else atI its key:=by simp [atI,List.foldl_append]
theorem at_skip (key:Nat):∀ (its:List ItV) (m:Int),(∀ x∈its,hasB x.k.rg key=false)→its.foldl (fun m x=>if hasB x.k.rg key=true then max m x.n else m) m=m
 | [],m,_=>rfl
 | x :: its,m,h=>by
  rw [List.foldl_cons,h x (by simp)]
  simp only [Bool.false_eq_true,if_false]
  exact at_skip key its m fun y hy=>h y (by simp [hy])
theorem at_step {its:List ItV} {i:Nat} {x:ItV} {key:Nat} (hx:its[i]? = some x):atI (its.take (i+1)) key=if hasB x.k.rg key=true then max (atI (its.take i) key) x.n else atI (its.take i) key:=by
 rw [List.take_add_one,hx]
 exact atI_snoc _ _ _
theorem at_end {its:List ItV} (hr:rises its) {key i:Nat} {x:ItV} (hx:its[i]? = some x) (hd:flt key x.k.lo.bits=true):atI its key=atI (its.take i) key:=by
 obtain ⟨h1,h2⟩:=List.getElem?_eq_some_iff.1 hx
 unfold atI
 conv=>lhs;rw [←List.take_append_drop i its,List.foldl_append]
 refine at_skip _ _ _ fun y hy=>?_
 obtain ⟨j,hj,rfl⟩:=List.getElem_of_mem hy
 rw [List.length_drop] at hj
 rw [List.getElem_drop]
 have hlo:x.k.lo.v≤its[i+j].k.lo.v:=by
  rcases Nat.eq_zero_or_pos j with rfl|hj0
  ·simp only [Nat.add_zero,h2];exact Int.le_refl _
  ·have:=(List.pairwise_iff_getElem.1 hr) i (i+j) h1 (by omega) (by omega)
   rw [h2] at this
   have:=(codeR_some _ _ _ _).1 this
   omega
 show hasB (some (_,_)) key=false
 simp only [hasB]
 simp [flt,fle,Key.bits_nan,Key.kof_bits] at hd ⊢
 intro _ h
 omega

set_option maxRecDepth 100000 in
theorem tabAt_any {w:World} {B T:Nat} {v:Value} {most:Int} {its:List ItV} (h:TabAt w B T v most its) (hr:rises its) (key:Nat) (hk:key<2 ^ 64) :
  Calls Tryz.prog 189 #[.pointer (some ⟨T,0,none⟩),.float .f64 key] w (Ret (.int .i64 (atI its key)) w):=by
 have hT:=h.lt
 have c1:=cell_row h.tab 1
 simp at c1
 obtain ⟨va,vc,rfl⟩:=own_slice h.own
 have hva:=fun h0=>own_at h.own rfl h0
 have hstep:=fun i x=>at_step (i:=i) (x:=x) (its:=its) (key:=key)
 have hend:=fun i x=>at_end (i:=i) (x:=x) hr (key:=key)
 have htl:atI (its.take its.length) key=atI its key:=by rw [List.take_length]
 obtain ⟨n,hn⟩:∃ n,its.length=n:=⟨_,rfl⟩
 have hl:=h.len
 rw [hn] at hl htl hva c1
 have HN:=hid hn
 have HA:=hid hva
 have HS:=hid hstep
 have HE:=hid hend
 have HT:=hid htl
 clear h hn hva hstep hend htl hr
 go_enter Tryz.func189,Tryz.ntmps189
 go_wp2
 go_loopw [5,13] (fun uv iv wr=>∃ i:Nat,i≤n∧iv=.int .i64 i∧uv=.int .i64 (atI (its.take i) key)∧Below w.heap.size w wr) (fun _ iv _=>n-(intOf iv).toNat)
 case atStart=>exact ⟨0,Nat.zero_le _,rfl,rfl,by exact below_auto⟩
 case round =>
  obtain ⟨i,hin,rfl,rfl,hb⟩:=hrel
  have hz:=hb.size
  by_cases hlt:i<n
  ·have hlt':(i:Int)<(n:Int):=by omega
   have hil:i<its.length:=by rw [HN.out];exact hlt
   obtain ⟨g,rfl,hg,hcs⟩:=HA.out (by omega)
   obtain ⟨d0,d1,d2,d3,d4⟩:=hcs i hlt
   have d0:=(hb.cell (p:=⟨g,_,none⟩) hg).trans d0
   have d1:=(hb.cell (p:=⟨g,_,none⟩) hg).trans d1
   have d2:=(hb.cell (p:=⟨g,_,none⟩) hg).trans d2
   have d3:=(hb.cell (p:=⟨g,_,none⟩) hg).trans d3
   have d4:=(hb.cell (p:=⟨g,_,none⟩) hg).trans d4
   have hgw:g<wr.heap.size:=by omega
   have hx:=it_some hil
   have hst:=HS.out i _ hx
   have hen:=HE.out i _ hx
   generalize its[i]?.getD default=x at *
   generalize hcur:atI (its.take i) key=cur at *
   clear hcs hil hx
   cases hq:flt key x.k.lo.bits
   ·cases hh:hasB x.k.rg key
    ·rw [hh] at hst
     have hhas:=fun W=>has_is x.k.lo.bits x.k.hi.bits false false key false W (Key.bits_lt _) (Key.bits_lt _) (hid (by rw [canonS_canon _ _ x.k.le];exact hh))
     have hst:=hid hst
     clear hen hh
     go_wp2_with (go_at_call 230;with_reducible refine mQ (hhas _) ?_;intro w1 hb1 hc1 hf1 hz1;intros)
     go_roundw
     case rel=>exact ⟨i+1,by omega,by go_num,by rw [hst.out];rfl,by exact below_auto⟩
     case measure=>simp [intOf];omega
    ·rw [hh] at hst
     have hhas:=fun W=>has_is x.k.lo.bits x.k.hi.bits false false key true W (Key.bits_lt _) (Key.bits_lt _) (hid (by rw [canonS_canon _ _ x.k.le];exact hh))
     have hst:=hid hst
     clear hen hh
     go_wp2_with (go_at_call 230;with_reducible refine mQ (hhas _) ?_;intro w1 hb1 hc1 hf1 hz1;intros)
     all_goals
      go_roundw
      case rel=>exact ⟨i+1,by omega,by go_num,by rw [hst.out];simp,by exact below_auto⟩
      case measure=>simp [intOf];omega
   ·have hen:=hid (hen hq)
    go_wp2
    go_ret
    exact ⟨by rw [hen.out];rfl,by exact below_auto⟩
  ·obtain rfl:i=n:=by omega
   rw [HT.out]
   go_wp2
   go_ret
   exact ⟨rfl,by exact below_auto⟩

theorem tabLen_any {w:World} {B T:Nat} {v:Value} {most:Int} {its:List ItV} (h:TabAt w B T v most its) :
  Calls Tryz.prog 62 #[.pointer (some ⟨T,0,none⟩)] w (Ret (.int .i64 its.length) w):=by
 have c1:=cell_row h.tab 1
 simp at c1
 have hown:=h.own
 rcases hown.2 with ⟨rfl,h0⟩|⟨g,cap,cur,rfl,hbg,hg,hnc,hcm,hcs,htake⟩
 ·have:=itCells_len its
  rw [h0] at this;simp at this
  rw [show its.length=0 by omega]
  clear h hown this h0
  go_enter Tryz.func62,Tryz.ntmps62
  go_wp2
  go_ret
  exact ⟨rfl,by exact below_auto⟩
 ·generalize its.length=n at *
  clear h hown hg hcs htake
  go_enter Tryz.func62,Tryz.ntmps62
  go_wp2
  go_ret
  exact ⟨rfl,by exact below_auto⟩

def mostI (m:Int):Int:=min (max m 0) 64
def NewRet (B:Nat) (w:World) (m:Int) (e:Ending) (w':World):Prop:=e=.returned (.pointer (some ⟨w.heap.size,0,none⟩))∧TabAt w' B w.heap.size (.slice none 0 0) (mostI m) []∧Below w.heap.size w w'
theorem tabNew_any (B:Nat) (m:Int) (w:World) (hB:B≤w.heap.size) (h1:-9223372036854775808≤m) (h2:m≤9223372036854775807) :
  Calls Tryz.prog 41 #[.int .i64 m] w (NewRet B w m):=by
 go_enter Tryz.func41,Tryz.ntmps41
 go_wp2
 go_ret
 refine ⟨rfl,⟨?_,World.ownsRow_nil _ _ _ _,by simp [Value.ownBlock],hB,by simp⟩,by exact below_auto⟩
 exact heap_alloc_new w _

theorem Upd.of_below {w w':World} (h:Below w.heap.size w w') (T:Nat) (v:Value):Upd w w' T v v:=⟨h.os,h.tape,h.output,h.size,fun k hk _ _=>h.block k hk,.inl rfl⟩

theorem tabClear_any {w:World} {B T:Nat} {v:Value} {most:Int} {its:List ItV} (h:TabAt w B T v most its) :
  Calls Tryz.prog 321 #[.pointer (some ⟨T,0,none⟩)] w fun e w'=>e=.returned (.tuple #[])∧TabAt w' B T (.slice none 0 0) most []∧Upd w w' T v (.slice none 0 0):=by
 have c1:=cell_row h.tab 1
 simp at c1
 have f1:w.frozen? ⟨T,1,none⟩=false:=by simp [World.frozen?,h.tab]
 have hfin:TabAt (w.setCell ⟨T,1,none⟩ (.slice none 0 0)) B T (.slice none 0 0) most []∧Upd w (w.setCell ⟨T,1,none⟩ (.slice none 0 0)) T v (.slice none 0 0):=by
  have e:=setCell_eq_setRow w T 1 _ _ _ (.slice none 0 0) h.tab
  rw [e]
  refine ⟨⟨by rw [setRow_heap w T _ _ _ _ h.tab];rfl,World.ownsRow_nil _ _ _ _,by simp [Value.ownBlock],h.low,by simp⟩,⟨rfl,rfl,rfl,by simp,fun k _ hk _=>setRow_other _ _ _ _ hk,.inr (.inl rfl)⟩⟩
 have hfin':=hid hfin
 clear h hfin
 go_enter Tryz.func321,Tryz.ntmps321
 go_wp2
 go_end0
 exact ⟨rfl,hfin'.out⟩

def keyR:Rg→RK
 | none=>default
 | some (l,h)=>if hlh:l.v≤h.v then ⟨l,h,hlh⟩ else default
theorem keyR_rg {kb:Rg} (hk:okR kb) (h:kb≠none):(keyR kb).rg=kb:=by
 rcases kb with _|⟨l,h'⟩
 ·exact absurd rfl h
 ·have:l.v≤h'.v:=hk
  simp [keyR,this,RK.rg]
theorem keyR_lo {kb:Rg} (hk:okR kb) (h:kb≠none):(keyR kb).lo.bits=slo kb:=by
 have:=keyR_rg hk h
 rcases kb with _|⟨l,h'⟩
 ·exact absurd rfl h
 ·simp [RK.rg] at this;simp [slo,this]
theorem keyR_hi {kb:Rg} (hk:okR kb) (h:kb≠none):(keyR kb).hi.bits=shi kb:=by
 have:=keyR_rg hk h
 rcases kb with _|⟨l,h'⟩
 ·exact absurd rfl h
 ·simp [RK.rg] at this;simp [shi,this]
theorem sop_some {kb:Rg} (h:kb≠none):sop kb=false:=by
 rcases kb with _|⟨l,h'⟩
 ·exact absurd rfl h
 ·rfl

def putI (its:List ItV) (most:Int) (kb:Rg) (n:Int):Int×List ItV :=
 if kb=none then (41,its) else if n<1∨1099511627776<n then (43,its)
 else if plcB its kb=true then (0,its.set (plcI its kb) ⟨(its[plcI its kb]?.getD default).k,max (its[plcI its kb]?.getD default).n n⟩)
 else if (its.length:Int)=most then (3,its) else (0,its.take (plcI its kb)++[⟨keyR kb,n⟩]++its.drop (plcI its kb))
def PutRet (w:World) (B T:Nat) (v:Value) (most:Int) (r:Int×List ItV) (e:Ending) (w':World):Prop:=∃ v',e=.returned (.int .i64 r.1)∧TabAt w' B T v' most r.2∧Upd w w' T v v'

theorem itCells_setn:∀ (its:List ItV) (p:Nat) (n:Int),p<its.length→itCells (its.set p ⟨(its[p]?.getD default).k,n⟩)=(itCells its).set (p * 5+4) (.int .i64 n)
 | [],_,_,h=>by simp at h
 | x :: its,0,n,_=>by simp [itCells,ItV.enc]
 | x :: its,p+1,n,h=>by
  have:=itCells_setn its p n (by simpa using h)
  simp only [itCells] at this
  simp [itCells,ItV.enc,this,show (p+1) * 5+4=p * 5+4+1+1+1+1+1 by omega]

set_option maxRecDepth 100000 in
theorem tabPut_bad {w:World} {B T:Nat} {v:Value} {most:Int} {its:List ItV} (h:TabAt w B T v most its) (hr:rises its) (lo hi:Nat) (a b:Bool) (kb:Rg) (hl:lo<2 ^ 64) (hh:hi<2 ^ 64) (hkb:Hid (canonS lo hi a b=kb)) (hk:okR kb) (n:Int) (c:Int)
  (hc:(kb=none∧c=41)∨(kb≠none∧n<1∧c=43)∨(kb≠none∧1≤n∧1099511627776<n∧c=43)) :
  Calls Tryz.prog 121 #[.pointer (some ⟨T,0,none⟩),.agg #[.float .f64 lo,.float .f64 hi,.bool a,.bool b],.int .i64 n] w (PutRet w B T v most (c,its)):=by
 have hT:=h.lt
 have hcan:=fun W=>canonG lo hi a b kb W hl hh hkb
 have HS:=fun W (hq:TabAt W B T v most its)=>vSearch_any kb hk hq.own hq.len hr
 have fin:∀ e w',Ret (.int .i64 c) w e w'→PutRet w B T v most (c,its) e w':=fun e w' ⟨h1,h2⟩=>⟨v,h1,h.below h2,Upd.of_below h2 T v⟩
 refine Calls.mono ?_ fin
 clear fin
 obtain ⟨va,vc,rfl⟩:=own_slice h.own
 have hemp:=fun W=>empty_is (slo kb) (shi kb) (sop kb) (sop kb) kb.isNone W (slo_lt kb) (shi_lt kb) (hid (by rw [canonS_gen hk]))
 have hc':(kb.isNone=true∧c=41)∨(kb.isNone=false∧n<1∧c=43)∨(kb.isNone=false∧1≤n∧1099511627776<n∧c=43):=by
  rcases kb with _|⟨l,h'⟩
  ·rcases hc with h1|h1|h1
   ·exact .inl ⟨rfl,h1.2⟩
   ·exact absurd rfl h1.1
   ·exact absurd rfl h1.1
  ·rcases hc with h1|h1|h1
   ·cases h1.1
   ·exact .inr (.inl ⟨rfl,h1.2⟩)
   ·exact .inr (.inr ⟨rfl,h1.2⟩)
 clear hc
 generalize kb.isNone=em at *
 generalize plcI its kb=p at *
 generalize plcB its kb=q at *
 generalize slo kb=x0 at *
 generalize shi kb=x1 at *
 generalize sop kb=x2 at *
 rcases hc' with ⟨rfl,rfl⟩|⟨rfl,h2,rfl⟩|⟨rfl,h2,h3,rfl⟩
 all_goals
  go_enter Tryz.func121,Tryz.ntmps121
  go_wp2_with (go_at_call 181;with_reducible refine mQ (hcan _) ?_;intro w1 hb1 hc1 hf1 hz1;intros)
  (generalize hW2:World.setCell _ _ _=w2;have hB2:Below w.heap.size w w2:=(by rw [←hW2];exact below_auto);have hS2:=congrArg (fun W=>W.heap.size) hW2.symm;simp [go_sem] at hS2;have cc2_0_0:=congrArg (fun W=>W.cell? ⟨w.heap.size,0,none⟩) hW2.symm;have cf2_0_0:=congrArg (fun W=>W.frozen? ⟨w.heap.size,0,none⟩) hW2.symm;have cc2_0_1:=congrArg (fun W=>W.cell? ⟨w.heap.size,1,none⟩) hW2.symm;have cf2_0_1:=congrArg (fun W=>W.frozen? ⟨w.heap.size,1,none⟩) hW2.symm;have cc2_0_2:=congrArg (fun W=>W.cell? ⟨w.heap.size,2,none⟩) hW2.symm;have cf2_0_2:=congrArg (fun W=>W.frozen? ⟨w.heap.size,2,none⟩) hW2.symm;have cc2_0_3:=congrArg (fun W=>W.cell? ⟨w.heap.size,3,none⟩) hW2.symm;have cf2_0_3:=congrArg (fun W=>W.frozen? ⟨w.heap.size,3,none⟩) hW2.symm;clear hW2;simp [go_sem, *] at cc2_0_0;simp [go_sem, *] at cf2_0_0;simp [go_sem, *] at cc2_0_1;simp [go_sem, *] at cf2_0_1;simp [go_sem, *] at cc2_0_2;simp [go_sem, *] at cf2_0_2;simp [go_sem, *] at cc2_0_3;simp [go_sem, *] at cf2_0_3;(try have hw2_0:w.heap.size<w2.heap.size:=by omega);(try have hw2_1:w.heap.size+1<w2.heap.size:=by omega);(try have hw2_2:w.heap.size+1+1<w2.heap.size:=by omega);(try have hw2_3:w.heap.size+1+1+1<w2.heap.size:=by omega);clear hS2)
  have h2:=h.below hB2
  have c1:=cell_row h2.tab 1
  simp at c1
  have hT2:=h2.lt
  have hz2:=hB2.size
  (refine wp_region_ext (by kernel_rfl) (by kernel_rfl) ?_;(repeat (go_big_quiet_step (first|(go_at_call 196;with_reducible exact Calls.ext_of (HS _ (TabAt.below (TabAt.below h2 (by exact below_auto)) (Ext.b _)))))));refine mX ?_;intro w3 hb3 hc3 hf3 hz3;intros)
  go_wp2_with (go_at_call 108;with_reducible refine mQ (hemp _) ?_;intro w4 hb4 hc4 hf4 hz4;intros)
  go_ret
  exact ⟨rfl,by exact below_auto⟩

set_option maxRecDepth 100000 in
theorem tabPut_set {w:World} {B T:Nat} {v:Value} {most:Int} {its:List ItV} (h:TabAt w B T v most its) (hr:rises its) (lo hi:Nat) (a b:Bool) (kb:Rg) (hl:lo<2 ^ 64) (hh:hi<2 ^ 64) (hkb:Hid (canonS lo hi a b=kb)) (hk:okR kb) (n:Int) (h1:kb≠none) (hn2:1≤n) (hn3:n≤1099511627776) (hq:plcB its kb=true) :
  Calls Tryz.prog 121 #[.pointer (some ⟨T,0,none⟩),.agg #[.float .f64 lo,.float .f64 hi,.bool a,.bool b],.int .i64 n] w (PutRet w B T v most (0,its.set (plcI its kb) ⟨(its[plcI its kb]?.getD default).k,max (its[plcI its kb]?.getD default).n n⟩)):=by
 have hT:=h.lt
 have hcan:=fun W=>canonG lo hi a b kb W hl hh hkb
 have HS:=fun W (hq:TabAt W B T v most its)=>vSearch_any kb hk hq.own hq.len hr
 have hemp:=fun W=>empty_is (slo kb) (shi kb) (sop kb) (sop kb) false W (slo_lt kb) (shi_lt kb) (hid (by rw [canonS_gen hk];cases kb;exact absurd rfl h1;rfl))
 have hp:=plcB_lt hq
 rw [hq] at HS
 have hset:=itCells_setn its (plcI its kb) (max (its[plcI its kb]?.getD default).n n) hp
 generalize plcI its kb=p at *
 generalize hx:its[p]?.getD default=x at *
 have HX:=hid hx
 have HR:=hid hr
 have H1:=hid h1
 have hn2':¬n<1:=by omega
 have hn3':¬1099511627776<n:=by omega
 obtain ⟨va,vc,rfl⟩:=own_slice h.own
 clear hx hq hr h1
 generalize slo kb=x0 at *
 generalize shi kb=x1 at *
 generalize sop kb=x2 at *
 go_enter Tryz.func121,Tryz.ntmps121
 go_wp2_with (go_at_call 181;with_reducible refine mQ (hcan _) ?_;intro w1 hb1 hc1 hf1 hz1;intros)
 (generalize hW2:World.setCell _ _ _=w2;have hB2:Below w.heap.size w w2:=(by rw [←hW2];exact below_auto);have hS2:=congrArg (fun W=>W.heap.size) hW2.symm;simp [go_sem] at hS2;have cc2_0_0:=congrArg (fun W=>W.cell? ⟨w.heap.size,0,none⟩) hW2.symm;have cf2_0_0:=congrArg (fun W=>W.frozen? ⟨w.heap.size,0,none⟩) hW2.symm;have cc2_0_1:=congrArg (fun W=>W.cell? ⟨w.heap.size,1,none⟩) hW2.symm;have cf2_0_1:=congrArg (fun W=>W.frozen? ⟨w.heap.size,1,none⟩) hW2.symm;have cc2_0_2:=congrArg (fun W=>W.cell? ⟨w.heap.size,2,none⟩) hW2.symm;have cf2_0_2:=congrArg (fun W=>W.frozen? ⟨w.heap.size,2,none⟩) hW2.symm;have cc2_0_3:=congrArg (fun W=>W.cell? ⟨w.heap.size,3,none⟩) hW2.symm;have cf2_0_3:=congrArg (fun W=>W.frozen? ⟨w.heap.size,3,none⟩) hW2.symm;clear hW2;simp [go_sem, *] at cc2_0_0;simp [go_sem, *] at cf2_0_0;simp [go_sem, *] at cc2_0_1;simp [go_sem, *] at cf2_0_1;simp [go_sem, *] at cc2_0_2;simp [go_sem, *] at cf2_0_2;simp [go_sem, *] at cc2_0_3;simp [go_sem, *] at cf2_0_3;(try have hw2_0:w.heap.size<w2.heap.size:=by omega);(try have hw2_1:w.heap.size+1<w2.heap.size:=by omega);(try have hw2_2:w.heap.size+1+1<w2.heap.size:=by omega);(try have hw2_3:w.heap.size+1+1+1<w2.heap.size:=by omega);clear hS2)
 have h2:=h.below hB2
 have c1:=cell_row h2.tab 1
 simp at c1
 have hT2:=h2.lt
 have hz2:=hB2.size
 (refine wp_region_ext (by kernel_rfl) (by kernel_rfl) ?_;(repeat (go_big_quiet_step (first|(go_at_call 196;with_reducible exact Calls.ext_of (HS _ (TabAt.below (TabAt.below h2 (by exact below_auto)) (Ext.b _)))))));refine mX ?_;intro w3 hb3 hc3 hf3 hz3;intros)
 go_wp2_with fail
 ((with_reducible refine (hemp _).mono ?_);rintro e w4 ⟨rfl,hb4⟩;refine mB hb4 ?_;intro hc4 hf4 hz4;intros)
 have hb34:Below w3.heap.size w3 w4:=by exact below_auto
 have hb24:Below w2.heap.size w2 w4:=by exact below_auto
 have h4:=(h2.below hb24)
 have hub:=Upd.of_below (hB2.trans (hb24.mono hz2)) T (.slice va its.length vc)
 clear hc3 hf3 hb3 hc4 hf4 hb4 hb34 hb24 hB2 h2 h
 have c1:=cell_row h4.tab 1
 simp at c1
 have hT4:=h4.lt
 have hown:=h4.own
 rcases hown.2 with ⟨hv0,h0⟩|⟨g,cap,cur,hv0,hbg,hg,hnc,hcm,hcs,htake⟩
 ·omega
 ·obtain ⟨rfl,rfl⟩:va=some ⟨g,0,none⟩∧vc=cap:=by cases hv0;exact ⟨rfl,rfl⟩
  have hgl:=(Array.getElem?_eq_some_iff.1 hg).1
  obtain ⟨_,_,_,_,d4⟩:=own_cells hown rfl _ hp
  rw [HX.out] at d4
  have f4:w4.frozen? ⟨g,p * 5+4,none⟩=false:=by simp [World.frozen?,hg]
  have hlen:=h4.len
  have hp':(p:Int)<(its.length:Int):=by omega
  have hgT:g≠T:=fun e=>h4.apart (by rw [e];rfl)
  have fin:PutRet w B T (.slice (some ⟨g,0,none⟩) its.length vc) most (0,its.set p ⟨x.k,max x.n n⟩) (.returned (.int .i64 0)) (w4.drew.setCell ⟨g,p * 5+4,none⟩ (.int .i64 (max x.n n))):=by
   have hown2:w4.drew.ownsRow B 152 5 (.slice (some ⟨g,0,none⟩) its.length vc) its.length (itCells its):=hown
   obtain ⟨s1,s2⟩:=hown2.stored (p * 5+4) (.int .i64 (max x.n n))
   refine ⟨.slice (some ⟨g,0,none⟩) its.length vc,rfl,⟨?_,?_,h4.apart,h4.low,by simpa using hlen⟩,⟨?_,?_,?_,?_,?_,.inl rfl⟩⟩
   ·rw [s2.block T hT4 (by simp;omega)];exact h4.tab
   ·rw [List.length_set,hset];exact s1
   ·exact s2.os.trans hub.os
   ·exact s2.tape.trans hub.tape
   ·exact s2.output.trans hub.output
   ·exact Nat.le_trans hub.size s2.size
   ·intro k hk hkT hkv
    have:=hub.size
    exact (s2.block k (by show k<w4.heap.size;omega) hkv).trans (hub.block k hk hkT hkv)
  have hfin:=hid fin
  clear fin hset h4 hub hown hg hcs htake
  go_wp2_with fail
  go_still_tail 15,(by kernel_rfl)
  change wpList _ _ _ _ _ w4.drew
  go_wp2
  go_ret
  exact hfin.out

set_option maxRecDepth 100000 in
theorem tabPut_full {w:World} {B T:Nat} {v:Value} {most:Int} {its:List ItV} (h:TabAt w B T v most its) (hr:rises its) (lo hi:Nat) (a b:Bool) (kb:Rg) (hl:lo<2 ^ 64) (hh:hi<2 ^ 64) (hkb:Hid (canonS lo hi a b=kb)) (hk:okR kb) (n:Int) (h1:kb≠none) (hn2:1≤n) (hn3:n≤1099511627776) (hq:plcB its kb=false) (hm:(its.length:Int)=most) :
  Calls Tryz.prog 121 #[.pointer (some ⟨T,0,none⟩),.agg #[.float .f64 lo,.float .f64 hi,.bool a,.bool b],.int .i64 n] w (PutRet w B T v most (3,its)):=by
 have hT:=h.lt
 have hcan:=fun W=>canonG lo hi a b kb W hl hh hkb
 have HS:=fun W (hq:TabAt W B T v most its)=>vSearch_any kb hk hq.own hq.len hr
 have hemp:=fun W=>empty_is (slo kb) (shi kb) (sop kb) (sop kb) false W (slo_lt kb) (shi_lt kb) (hid (by rw [canonS_gen hk];cases kb;exact absurd rfl h1;rfl))
 rw [hq] at HS
 have fin:∀ e w',Ret (.int .i64 3) w e w'→PutRet w B T v most (3,its) e w':=fun e w' ⟨h1,h2⟩=>⟨v,h1,h.below h2,Upd.of_below h2 T v⟩
 refine Calls.mono ?_ fin
 clear fin
 generalize plcI its kb=p at *
 have HR:=hid hr
 have H1:=hid h1
 have hn2':¬n<1:=by omega
 have hn3':¬1099511627776<n:=by omega
 obtain ⟨va,vc,rfl⟩:=own_slice h.own
 clear hq hr h1
 generalize slo kb=x0 at *
 generalize shi kb=x1 at *
 generalize sop kb=x2 at *
 go_enter Tryz.func121,Tryz.ntmps121
 go_wp2_with (go_at_call 181;with_reducible refine mQ (hcan _) ?_;intro w1 hb1 hc1 hf1 hz1;intros)
 (generalize hW2:World.setCell _ _ _=w2;have hB2:Below w.heap.size w w2:=(by rw [←hW2];exact below_auto);have hS2:=congrArg (fun W=>W.heap.size) hW2.symm;simp [go_sem] at hS2;have cc2_0_0:=congrArg (fun W=>W.cell? ⟨w.heap.size,0,none⟩) hW2.symm;have cf2_0_0:=congrArg (fun W=>W.frozen? ⟨w.heap.size,0,none⟩) hW2.symm;have cc2_0_1:=congrArg (fun W=>W.cell? ⟨w.heap.size,1,none⟩) hW2.symm;have cf2_0_1:=congrArg (fun W=>W.frozen? ⟨w.heap.size,1,none⟩) hW2.symm;have cc2_0_2:=congrArg (fun W=>W.cell? ⟨w.heap.size,2,none⟩) hW2.symm;have cf2_0_2:=congrArg (fun W=>W.frozen? ⟨w.heap.size,2,none⟩) hW2.symm;have cc2_0_3:=congrArg (fun W=>W.cell? ⟨w.heap.size,3,none⟩) hW2.symm;have cf2_0_3:=congrArg (fun W=>W.frozen? ⟨w.heap.size,3,none⟩) hW2.symm;clear hW2;simp [go_sem, *] at cc2_0_0;simp [go_sem, *] at cf2_0_0;simp [go_sem, *] at cc2_0_1;simp [go_sem, *] at cf2_0_1;simp [go_sem, *] at cc2_0_2;simp [go_sem, *] at cf2_0_2;simp [go_sem, *] at cc2_0_3;simp [go_sem, *] at cf2_0_3;(try have hw2_0:w.heap.size<w2.heap.size:=by omega);(try have hw2_1:w.heap.size+1<w2.heap.size:=by omega);(try have hw2_2:w.heap.size+1+1<w2.heap.size:=by omega);(try have hw2_3:w.heap.size+1+1+1<w2.heap.size:=by omega);clear hS2)
 have h2:=h.below hB2
 have c1:=cell_row h2.tab 1
 simp at c1
 have hT2:=h2.lt
 have hz2:=hB2.size
 (refine wp_region_ext (by kernel_rfl) (by kernel_rfl) ?_;(repeat (go_big_quiet_step (first|(go_at_call 196;with_reducible exact Calls.ext_of (HS _ (TabAt.below (TabAt.below h2 (by exact below_auto)) (Ext.b _)))))));refine mX ?_;intro w3 hb3 hc3 hf3 hz3;intros)
 go_wp2_with fail
 ((with_reducible refine (hemp _).mono ?_);rintro e w4 ⟨rfl,hb4⟩;refine mB hb4 ?_;intro hc4 hf4 hz4;intros)
 have hb24:Below w2.heap.size w2 w4:=by exact below_auto
 have h4:=(h2.below hb24)
 have hb04:Below w.heap.size w w4:=hB2.trans (hb24.mono hz2)
 clear hc3 hf3 hb3 hc4 hf4 hb4 hb24 hB2 h2 h
 have c0:=cell_row h4.tab 0
 have c1:=cell_row h4.tab 1
 simp at c0 c1
 have hT4:=h4.lt
 generalize its.length=m at *
 subst hm
 go_wp2_with fail
 go_quiet (fail)
 go_wp2
 go_ret
 exact ⟨rfl,by exact below_auto⟩

set_option maxHeartbeats 1000000 in
set_option maxRecDepth 100000 in
theorem tabPut_ins {w:World} {B T:Nat} {v:Value} {most:Int} {its:List ItV} (h:TabAt w B T v most its) (hr:rises its) (lo hi:Nat) (a b:Bool) (kb:Rg) (hl:lo<2 ^ 64) (hh:hi<2 ^ 64) (hkb:Hid (canonS lo hi a b=kb)) (hk:okR kb) (n:Int) (h1:kb≠none) (hn2:1≤n) (hn3:n≤1099511627776) (hB:B≤w.heap.size) (hq:plcB its kb=false) (hm:(its.length:Int)≠most) (hl64:its.length<64) :
  Calls Tryz.prog 121 #[.pointer (some ⟨T,0,none⟩),.agg #[.float .f64 lo,.float .f64 hi,.bool a,.bool b],.int .i64 n] w (PutRet w B T v most (0,its.take (plcI its kb)++[⟨keyR kb,n⟩]++its.drop (plcI its kb))):=by
 have hT:=h.lt
 have hcan:=fun W=>canonG lo hi a b kb W hl hh hkb
 have HS:=fun W (hq:TabAt W B T v most its)=>vSearch_any kb hk hq.own hq.len hr
 have hemp:=fun W=>empty_is (slo kb) (shi kb) (sop kb) (sop kb) false W (slo_lt kb) (shi_lt kb) (hid (by rw [canonS_gen hk];cases kb;exact absurd rfl h1;rfl))
 rw [hq] at HS
 have hple:=plcI_le its kb
 generalize plcI its kb=p at *
 have HR:=hid hr
 have H1:=hid h1
 have hm':((its.length:Int) == most)=false:=by simp;exact hm
 have hn2':¬n<1:=by omega
 have hn3':¬1099511627776<n:=by omega
 obtain ⟨va,vc,rfl⟩:=own_slice h.own
 have HK0:=hid (keyR_lo hk h1)
 have HK1:=hid (keyR_hi hk h1)
 have hop:=sop_some h1
 rw [hop] at hcan HS hemp
 clear hq hr h1 hop hm
 generalize slo kb=x0 at *
 generalize shi kb=x1 at *
 go_enter Tryz.func121,Tryz.ntmps121
 go_wp2_with (go_at_call 181;with_reducible refine mQ (hcan _) ?_;intro w1 hb1 hc1 hf1 hz1;intros)
 (generalize hW2:World.setCell _ _ _=w2;have hB2:Below w.heap.size w w2:=(by rw [←hW2];exact below_auto);have hS2:=congrArg (fun W=>W.heap.size) hW2.symm;simp [go_sem] at hS2;have cc2_0_0:=congrArg (fun W=>W.cell? ⟨w.heap.size,0,none⟩) hW2.symm;have cf2_0_0:=congrArg (fun W=>W.frozen? ⟨w.heap.size,0,none⟩) hW2.symm;have cc2_0_1:=congrArg (fun W=>W.cell? ⟨w.heap.size,1,none⟩) hW2.symm;have cf2_0_1:=congrArg (fun W=>W.frozen? ⟨w.heap.size,1,none⟩) hW2.symm;have cc2_0_2:=congrArg (fun W=>W.cell? ⟨w.heap.size,2,none⟩) hW2.symm;have cf2_0_2:=congrArg (fun W=>W.frozen? ⟨w.heap.size,2,none⟩) hW2.symm;have cc2_0_3:=congrArg (fun W=>W.cell? ⟨w.heap.size,3,none⟩) hW2.symm;have cf2_0_3:=congrArg (fun W=>W.frozen? ⟨w.heap.size,3,none⟩) hW2.symm;clear hW2;simp [go_sem, *] at cc2_0_0;simp [go_sem, *] at cf2_0_0;simp [go_sem, *] at cc2_0_1;simp [go_sem, *] at cf2_0_1;simp [go_sem, *] at cc2_0_2;simp [go_sem, *] at cf2_0_2;simp [go_sem, *] at cc2_0_3;simp [go_sem, *] at cf2_0_3;(try have hw2_0:w.heap.size<w2.heap.size:=by omega);(try have hw2_1:w.heap.size+1<w2.heap.size:=by omega);(try have hw2_2:w.heap.size+1+1<w2.heap.size:=by omega);(try have hw2_3:w.heap.size+1+1+1<w2.heap.size:=by omega);clear hS2)
 have h2:=h.below hB2
 have c1:=cell_row h2.tab 1
 simp at c1
 have hT2:=h2.lt
 have hz2:=hB2.size
 (refine wp_region_ext (by kernel_rfl) (by kernel_rfl) ?_;(repeat (go_big_quiet_step (first|(go_at_call 196;with_reducible exact Calls.ext_of (HS _ (TabAt.below (TabAt.below h2 (by exact below_auto)) (Ext.b _)))))));refine mX ?_;intro w3 hb3 hc3 hf3 hz3;intros)
 go_wp2_with fail
 ((with_reducible refine (hemp _).mono ?_);rintro e w4 ⟨rfl,hb4⟩;refine mB hb4 ?_;intro hc4 hf4 hz4;intros)
 have hb24:Below w2.heap.size w2 w4:=by exact below_auto
 have h4:=(h2.below hb24)
 have hub:=Upd.of_below (hB2.trans (hb24.mono hz2)) T (.slice va its.length vc)
 have hB4:B≤w4.heap.size:=Nat.le_trans hB (Nat.le_trans hz2 hb24.size)
 have hbx:w.heap.size<w4.heap.size:=by omega
 have b0:w4.cell? ⟨w.heap.size,0,none⟩=some (.float .f64 x0):=(hb24.cell (p:=⟨w.heap.size,0,none⟩) (by assumption)).trans cc2_0_0
 have b1:w4.cell? ⟨w.heap.size,1,none⟩=some (.float .f64 x1):=(hb24.cell (p:=⟨w.heap.size,1,none⟩) (by assumption)).trans cc2_0_1
 have b2:w4.cell? ⟨w.heap.size,2,none⟩=some (.bool false):=(hb24.cell (p:=⟨w.heap.size,2,none⟩) (by assumption)).trans cc2_0_2
 have b3:w4.cell? ⟨w.heap.size,3,none⟩=some (.bool false):=(hb24.cell (p:=⟨w.heap.size,3,none⟩) (by assumption)).trans cc2_0_3
 clear hc3 hf3 hb3 hc4 hf4 hb4 hb24 hB2 h2 h cc2_0_0 cc2_0_1 cc2_0_2 cc2_0_3
 have c0:=cell_row h4.tab 0
 have c1:=cell_row h4.tab 1
 simp at c0 c1
 have hT4:=h4.lt
 have hvT:(Value.slice va its.length vc).ownBlock≠some T:=h4.apart
 have hlow:=h4.low
 go_wp2_with fail
 go_quiet (fail)
 rename_i nq
 go_wp2
 refine wp_region_notes_late [Note.val (.pointer (some ⟨T,0,none⟩)),Note.val (.pointer (some ⟨T,0,none⟩)),Note.val (.pointer (some ⟨T,0,none⟩)),Note.val (.pointer (some ⟨T,1,none⟩)),Note.val (.slice va its.length vc),Note.val (.int .i64 p),Note.val (.agg #[.float .f64 x0,.float .f64 x1,.bool false,.bool false]),Note.val (.int .i64 n),Note.val (.agg #[.float .f64 x0,.float .f64 x1,.bool false,.bool false,.int .i64 n]),Note.row 152 1 1 [.float .f64 x0,.float .f64 x1,.bool false,.bool false,.int .i64 n]] 0 rfl (by kernel_rfl) (by kernel_rfl) ?_ ?_ ?_
 ·simp only [List.length_cons,List.length_nil,Nat.reduceAdd,List.take_succ_cons,List.take_zero,StepsN,List.nil_append,List.cons_append]
  refine ⟨?_,?_,?_,?_,?_,?_,?_,?_,?_,?_,trivial⟩
  ·intro u w5 hb5 hd
   refine mB hb5 ?_;intro hc5 hf5 hz5;intros
   refine mH ?_;clear hd
   ((try simp only [forall_exists_index,and_imp]);intros)
   clear u
   go_wp2_with (first|fail)
   exact ⟨rfl,by exact below_auto,rfl⟩
  ·intro u w5 hb5 hd
   refine mB hb5 ?_;intro hc5 hf5 hz5;intros
   refine mH ?_;clear hd
   generalize u 0=u0
   ((try simp only [forall_exists_index,and_imp]);intros)
   (try subst u0)
   clear u
   go_wp2_with (first|fail)
   exact ⟨rfl,by exact below_auto,rfl⟩
  ·intro u w5 hb5 hd
   refine mB hb5 ?_;intro hc5 hf5 hz5;intros
   refine mH ?_;clear hd
   generalize u 0=u0
   generalize u 1=u1
   ((try simp only [forall_exists_index,and_imp]);intros)
   (try subst u0)
   (try subst u1)
   clear u
   go_wp2_with (first|fail)
   exact ⟨rfl,by exact below_auto,rfl⟩
  ·intro u w5 hb5 hd
   refine mB hb5 ?_;intro hc5 hf5 hz5;intros
   refine mH ?_;clear hd
   generalize u 0=u0
   generalize u 1=u1
   generalize u 2=u2
   ((try simp only [forall_exists_index,and_imp]);intros)
   (try subst u0)
   (try subst u1)
   (try subst u2)
   clear u
   go_wp2_with (first|fail)
   exact ⟨rfl,by exact below_auto,rfl⟩
  ·intro u w5 hb5 hd
   refine mB hb5 ?_;intro hc5 hf5 hz5;intros
   refine mH ?_;clear hd
   generalize u 0=u0
   generalize u 1=u1
   generalize u 2=u2
   generalize u 3=u3
   ((try simp only [forall_exists_index,and_imp]);intros)
   (try subst u0)
   (try subst u1)
   (try subst u2)
   (try subst u3)
   clear u
   go_wp2_with (first|fail)
   exact ⟨rfl,by exact below_auto,rfl⟩
  ·intro u w5 hb5 hd
   refine mB hb5 ?_;intro hc5 hf5 hz5;intros
   refine mH ?_;clear hd
   generalize u 0=u0
   generalize u 1=u1
   generalize u 2=u2
   generalize u 3=u3
   generalize u 4=u4
   ((try simp only [forall_exists_index,and_imp]);intros)
   (try subst u0)
   (try subst u1)
   (try subst u2)
   (try subst u3)
   (try subst u4)
   clear u
   go_wp2_with (first|fail)
   exact ⟨rfl,by exact below_auto,rfl⟩
  ·intro u w5 hb5 hd
   refine mB hb5 ?_;intro hc5 hf5 hz5;intros
   refine mH ?_;clear hd
   generalize u 0=u0
   generalize u 1=u1
   generalize u 2=u2
   generalize u 3=u3
   generalize u 4=u4
   generalize u 5=u5
   ((try simp only [forall_exists_index,and_imp]);intros)
   (try subst u0)
   (try subst u1)
   (try subst u2)
   (try subst u3)
   (try subst u4)
   (try subst u5)
   clear u
   go_wp2_with (first|fail)
   exact ⟨rfl,by exact below_auto,rfl⟩
  ·intro u w5 hb5 hd
   refine mB hb5 ?_;intro hc5 hf5 hz5;intros
   refine mH ?_;clear hd
   generalize u 0=u0
   generalize u 1=u1
   generalize u 2=u2
   generalize u 3=u3
   generalize u 4=u4
   generalize u 5=u5
   generalize u 6=u6
   ((try simp only [forall_exists_index,and_imp]);intros)
   (try subst u0)
   (try subst u1)
   (try subst u2)
   (try subst u3)
   (try subst u4)
   (try subst u5)
   (try subst u6)
   clear u
   go_wp2_with (first|fail)
   exact ⟨rfl,by exact below_auto,rfl⟩
  ·intro u w5 hb5 hd
   refine mB hb5 ?_;intro hc5 hf5 hz5;intros
   refine mH ?_;clear hd
   generalize u 0=u0
   generalize u 1=u1
   generalize u 2=u2
   generalize u 3=u3
   generalize u 4=u4
   generalize u 5=u5
   generalize u 6=u6
   generalize u 7=u7
   ((try simp only [forall_exists_index,and_imp]);intros)
   (try subst u0)
   (try subst u1)
   (try subst u2)
   (try subst u3)
   (try subst u4)
   (try subst u5)
   (try subst u6)
   (try subst u7)
   clear u
   go_wp2_with (first|fail)
   exact ⟨rfl,by exact below_auto,rfl⟩
  ·intro u w5 hb5 hd
   refine mB hb5 ?_;intro hc5 hf5 hz5;intros
   refine mH ?_;clear hd
   generalize u 0=u0
   generalize u 1=u1
   generalize u 2=u2
   generalize u 3=u3
   generalize u 4=u4
   generalize u 5=u5
   generalize u 6=u6
   generalize u 7=u7
   generalize u 8=u8
   ((try simp only [forall_exists_index,and_imp]);intros)
   (try subst u0)
   (try subst u1)
   (try subst u2)
   (try subst u3)
   (try subst u4)
   (try subst u5)
   (try subst u6)
   (try subst u7)
   (try subst u8)
   clear u
   go_wp2_with (first|fail)
   exact ⟨rfl,by exact below_auto,w5.heap.size,rfl,Nat.le_refl _,by simp,heap_alloc_new _ _⟩
 intro u w5 hb5 hph hap
 refine mB hb5 ?_;intro hc5 hf5 hz5;intros
 have hp0:=hph 0 (by simp)
 have hp1:=hph 1 (by simp)
 have hp2:=hph 2 (by simp)
 have hp3:=hph 3 (by simp)
 have hp4:=hph 4 (by simp)
 have hp5:=hph 5 (by simp)
 have hp6:=hph 6 (by simp)
 have hp7:=hph 7 (by simp)
 have hp8:=hph 8 (by simp)
 have hp9:=hph 9 (by simp)
 clear hph hap
 simp only [List.length_cons,List.length_nil,List.take_succ_cons,List.take_zero,List.drop_succ_cons,List.drop_zero,List.cons_append,List.nil_append,putsFrom,putsBut,Act.put,qA,qB,qC,Nat.zero_add,Nat.reduceAdd,Nat.reduceEqDiff,if_true,if_false,reduceIte,Nat.zero_ne_one,Nat.one_ne_zero]
 generalize u 0=u0 at *
 generalize u 1=u1 at *
 generalize u 2=u2 at *
 generalize u 3=u3 at *
 generalize u 4=u4 at *
 generalize u 5=u5 at *
 generalize u 6=u6 at *
 generalize u 7=u7 at *
 generalize u 8=u8 at *
 generalize u 9=u9 at *
 clear u
 cases hp0
 cases hp1
 cases hp2
 cases hp3
 cases hp4
 cases hp5
 cases hp6
 cases hp7
 cases hp8
 obtain ⟨B9,rfl,hl9,hg9,hs9⟩:=hp9
 (try simp only [cellsAre,and_true] at hs9)
 rotate_left
 intro u w5 hb5 hph hap
 refine mB hb5 ?_;intro hc5 hf5 hz5;intros
 have hp1:=hph 1 (by simp) (by decide)
 have hp2:=hph 2 (by simp) (by decide)
 have hp3:=hph 3 (by simp) (by decide)
 have hp4:=hph 4 (by simp) (by decide)
 have hp5:=hph 5 (by simp) (by decide)
 have hp6:=hph 6 (by simp) (by decide)
 have hp7:=hph 7 (by simp) (by decide)
 have hp8:=hph 8 (by simp) (by decide)
 have hp9:=hph 9 (by simp) (by decide)
 clear hph hap
 simp only [List.length_cons,List.length_nil,List.take_succ_cons,List.take_zero,List.drop_succ_cons,List.drop_zero,List.cons_append,List.nil_append,putsFrom,putsBut,Act.put,qA,qB,qC,Nat.zero_add,Nat.reduceAdd,Nat.reduceEqDiff,if_true,if_false,reduceIte,Nat.zero_ne_one,Nat.one_ne_zero]
 generalize u 1=u1 at *
 generalize u 2=u2 at *
 generalize u 3=u3 at *
 generalize u 4=u4 at *
 generalize u 5=u5 at *
 generalize u 6=u6 at *
 generalize u 7=u7 at *
 generalize u 8=u8 at *
 generalize u 9=u9 at *
 clear u
 cases hp1
 cases hp2
 cases hp3
 cases hp4
 cases hp5
 cases hp6
 cases hp7
 cases hp8
 obtain ⟨B9,rfl,hl9,hg9,hs9⟩:=hp9
 (try simp only [cellsAre,and_true] at hs9)
 rotate_left
 all_goals
  have hb45:Below w4.heap.size w4 w5:=by exact below_auto
  have h5t:=h4.below hb45
  have hsz45:=hb45.size
  have hB5:B≤w5.heap.size:=by omega
  have hub5:Upd w w5 T (.slice va its.length vc) (.slice va its.length vc):=⟨hb45.os.trans hub.os,hb45.tape.trans hub.tape,hb45.output.trans hub.output,Nat.le_trans hub.size hb45.size,fun k hk h1 h2=>(hb45.block k (Nat.lt_of_lt_of_le hk hub.size)).trans (hub.block k hk h1 h2),.inl rfl⟩
  have hlB:w4.heap.size≤B9:=by simpa using hl9
  have hvB:(Value.slice va its.length vc).ownBlock≠some B9:=by
   intro e
   have:=(h4.own.lt B9 e).2
   omega
  have hI:=vInsert (.slice va its.length vc) B9 B its.length p (itCells its) [.float .f64 x0,.float .f64 x1,.bool false,.bool false,.int .i64 n] w5 hB5 h5t.own (by omega) hple (itCells_one its) rfl (by intro u hu;simp at hu;rcases hu with rfl|rfl|rfl|rfl|rfl <;> rfl) hs9 hvB
  clear hc5 hf5 hs9
  have cT:=cell_row h5t.tab 1
  simp at cT
  go_wp2_with fail
  with_reducible refine hI.mono ?_
  rintro e w3 ⟨v',rfl,hown3,hgr3⟩
  clear hI
  rcases hown3.2 with ⟨rfl,h0⟩|⟨g3,cap3,cur3,rfl,hbg3,hg3,hnc3,hcm3,hcs3,htake3⟩
  ·have:=hown3.1
   rw [h0] at this;simp at this
  ·have hT5:=h5t.lt
   have t3:w3.heap[T]? = some (.cells #[.int .i64 most,.slice va its.length vc] 216 (0,0)):=(hgr3.1.block T hT5 (fun e=>hvT e.symm)).trans h5t.tab
   have c3:=cell_row t3 1
   have f3:w3.frozen? ⟨T,1,none⟩=false:=by simp [World.frozen?,t3]
   simp at c3
   have hgT:g3≠T:=fun e=>by
    rcases hgr3.2 with h|h|⟨g,h,hge⟩
    ·exact hvT (by rw [←h,e];rfl)
    ·simp [Value.ownBlock] at h
    ·simp [Value.ownBlock] at h;omega
   have hcells:itCells its |>.take (p * 5) |> (·++[Value.float .f64 x0,Value.float .f64 x1,Value.bool false,Value.bool false,Value.int .i64 n]++(itCells its).drop (p * 5)) |> (· = itCells (its.take p++[⟨keyR kb,n⟩]++its.drop p)):=by
    show (itCells its).take (p * 5)++[Value.float .f64 x0,Value.float .f64 x1,Value.bool false,Value.bool false,Value.int .i64 n]++(itCells its).drop (p * 5)=_
    unfold itCells
    rw [flat_take ItV.enc_len,flat_drop ItV.enc_len,List.flatMap_append,List.flatMap_append,←HK0.out,←HK1.out]
    rfl
   have hlen3:(its.take p++[(⟨keyR kb,n⟩:ItV)]++its.drop p).length=its.length+1:=by simp;omega
   have fin:PutRet w B T (.slice va its.length vc) most (0,its.take p++[⟨keyR kb,n⟩]++its.drop p) (.returned (.int .i64 0)) (w3.setCell ⟨T,1,none⟩ (.slice (some ⟨g3,0,none⟩) (its.length+1) cap3)):=by
    rw [setCell_eq_setRow w3 T 1 _ _ _ _ t3]
    have hk3:=grownBy_setRow w3 T (#[Value.int .i64 most,Value.slice va its.length vc].setIfInBounds 1 (.slice (some ⟨g3,0,none⟩) (its.length+1) cap3))
    refine ⟨.slice (some ⟨g3,0,none⟩) (its.length+1) cap3,rfl,⟨?_,?_,by simpa [Value.ownBlock] using hgT,hlow,by rw [hlen3];omega⟩,⟨?_,?_,?_,?_,?_,?_⟩⟩
    ·rw [setRow_heap w3 T _ _ _ _ t3];rfl
    ·rw [hlen3,←hcells]
     exact hown3.kept hk3 (.inr (by simpa [Value.ownBlock] using hgT))
    ·exact hk3.os.trans (hgr3.1.os.trans hub5.os)
    ·exact hk3.tape.trans (hgr3.1.tape.trans hub5.tape)
    ·exact hk3.output.trans (hgr3.1.output.trans hub5.output)
    ·exact Nat.le_trans hub5.size (Nat.le_trans hgr3.1.size hk3.size)
    ·intro k hk hkT hkv
     have q1:=hub5.size
     have q2:=hgr3.1.size
     exact (hk3.block k (by omega) (by simpa using hkT)).trans ((hgr3.1.block k (by omega) hkv).trans (hub5.block k hk hkT hkv))
    ·rcases hgr3.2 with h|h|⟨g,h,hge⟩
     ·exact .inl h
     ·exact .inr (.inl h)
     ·exact .inr (.inr ⟨g,h,Nat.le_trans hub5.size hge⟩)
   have hfin:=hid fin
   clear fin hcells hlen3 t3 hown3 hgr3 hub5 hub h4 h5t hg3 hcs3 htake3 hb45 hvT hvB hgT
   go_wp2
   go_ret
   exact hfin.out

theorem tabPut_any {w:World} {B T:Nat} {v:Value} {most:Int} {its:List ItV} (h:TabAt w B T v most its) (hB:B≤w.heap.size) (hr:rises its) (lo hi:Nat) (a b:Bool) (hl:lo<2 ^ 64) (hh:hi<2 ^ 64) (n:Int) (hm1:(its.length:Int)≤most) (hm2:most≤64) :
  Calls Tryz.prog 121 #[.pointer (some ⟨T,0,none⟩),.agg #[.float .f64 lo,.float .f64 hi,.bool a,.bool b],.int .i64 n] w (PutRet w B T v most (putI its most (canonS lo hi a b) n)):=by
 have hk:=okR_canon lo hi a b
 obtain ⟨kb,hkb⟩:∃ kb,canonS lo hi a b=kb:=⟨_,rfl⟩
 rw [hkb] at hk ⊢
 have hkb:=hid hkb
 unfold putI
 by_cases h1:kb=none
 ·rw [if_pos h1];exact tabPut_bad h hr lo hi a b kb hl hh hkb hk n 41 (.inl ⟨h1,rfl⟩)
 ·rw [if_neg h1]
  by_cases h2:n<1∨1099511627776<n
  ·rw [if_pos h2]
   by_cases h3:n<1
   ·exact tabPut_bad h hr lo hi a b kb hl hh hkb hk n 43 (.inr (.inl ⟨h1,h3,rfl⟩))
   ·exact tabPut_bad h hr lo hi a b kb hl hh hkb hk n 43 (.inr (.inr ⟨h1,by omega,by omega,rfl⟩))
  ·rw [if_neg h2]
   by_cases h3:plcB its kb=true
   ·rw [if_pos h3];exact tabPut_set h hr lo hi a b kb hl hh hkb hk n h1 (by omega) (by omega) h3
   ·have h3':plcB its kb=false:=by simpa using h3
    rw [if_neg h3]
    by_cases h4:(its.length:Int)=most
    ·rw [if_pos h4];exact tabPut_full h hr lo hi a b kb hl hh hkb hk n h1 (by omega) (by omega) h3' h4
    ·rw [if_neg h4];exact tabPut_ins h hr lo hi a b kb hl hh hkb hk n h1 (by omega) (by omega) hB h3' h4 (by omega)

end Go.Proofs.YtdeeoddacnealaaGreat.Q