/- Several texts as one: VR VI VB VT. -/
import Derived.Laws.CopyRow
import Derived.Laws.CopyOwn
import Derived.Laws.AppendOwn
import Derived.Laws.OwnMore
import Derived.Laws.Append
import Derived.Laws.IdiomCopy
import Derived.Lib.AppendZerosOnto
import Derived.Shelf.Spec.SlicesInsert
import Derived.WalkKit
import Derived.Test.YtdeeoddacnealaaGreatChecked
import Derived.WalkLawsBesides
import Derived.WalkSpells
import Derived.Outline
import Derived.Deep.RegionLaw
import Derived.Lib.Overlaps
import Derived.Laws.Externs
import Derived.Test.YtdeeoddacnealaaGreatMC0
set_option linter.unusedVariables false
namespace Go.Proofs.YtdeeoddacnealaaGreat
open Go.RowKit

section
variable {P : Program}
theorem run_copy_rowK (w:World) (dT sT ty elem:TypeId) (K g o dLen dCap:Nat) (a:Addr) (sLen sCap:Nat) (cur:Array Value) (t:TypeId) (cs:List Value)
  (hu:P.underlying dT=some (.slice elem)) (hs:(P.info? elem).map (·.size)=some K)
  (hg:w.heap[g]? = some (.cells cur t (0,0))) (hn:cs.length=Nat.min sLen dLen * K)
  (hsrc:∀ j v,cs[j]? = some v→w.cell? (a.add j)=some v) (hfit:o+cs.length≤cur.size) (h1:∀ v∈cs,v.oneCell'=true) :
  (Builtin.copy_ #[dT,sT] ty #[.slice (some ⟨g,o,none⟩) dLen dCap,.slice (some a) sLen sCap]).run P w =
   .ok (goInt (Nat.min sLen dLen)) (w.setRow g (cur.toList.take o++cs++cur.toList.drop (o+cs.length)).toArray):=by
 have hl:=run_loadCells_list (P:=P) w a cs hsrc
 have hst:=run_storeCells_at P g o t cs 0 cur w hg (by simpa using hfit) h1
 cases hq:P.info? elem with
 | none=>simp [hq] at hs
 | some i =>
  have hi:i.size=K:=by simpa [hq] using hs
  simp [Builtin.copy_,run_underlying hu,Builtin.lenOf,Builtin.firstCells,sizeOf,typeInfo,hq,hi,←hn,hl,hst]

def Grew (w w':World) (v v':Value):Prop:=w.grownBy w' v.ownBlock∧(v'.ownBlock=v.ownBlock∨v'.ownBlock=none∨∃ g,v'.ownBlock=some g∧w.heap.size≤g)

theorem grownBy_setRow (w:World) (g:Nat) (cs:Array Value):w.grownBy (w.setRow g cs) (some g) :=
 ⟨rfl,rfl,rfl,by simp,fun k _ hk=>setRow_other w g k _ (fun e=>hk (by simp [e]))⟩

theorem run_append_own2 (w:World) (base:Nat) (t e:TypeId) (i:TypeInfo) (z:Value) (size bytes:Nat) (ht:P.underlying t=some (.slice e)) (hi:P.info? e=some i) (hz:i.zero=some z)
  (hsize:i.size=size) (hby:i.bytes=bytes) (hzs:z.cells.size=size) (hsz:0<size)
  (v:Value) (n:Nat) (xs:List Value) (hown:w.ownsRow base e size v n xs)
  (a:Addr) (m c:Nat) (news:List Value) (hl:news.length=m * size) (hnews:∀ j u,news[j]? = some u→w.cell? (a.add j)=some u) (h1:∀ u∈news,u.oneCell'=true)
  (hm0:0<m) (h63:n+m≤maxLen) (hbytes:(n+m) * bytes≤140737488355328) (hbase:base≤w.heap.size) :
  ∃ v' w',(∀ ty,(Builtin.append_ #[t,t] ty #[v,.slice (some a) m c]).run P w=.ok v' w')∧w'.ownsRow base e size v' (n+m) (xs++news)∧Grew w w' v v':=by
 subst hsize
 subst hby
 have hsmall:n+m≤9223372036854775807:=by simp only [maxLen] at h63;omega
 have hlen:(xs++news).length=(n+m) * i.size:=by rw [List.length_append,hown.1,hl,Nat.add_mul]
 have grown:∀ (old:Nat),old<n+m→∀ (row:Option Nat),
   (w.drew.alloc (.cells (xs.toArray++news.toArray++Builtin.zeroCells z.cells (grownCap w (n+m) old e-(n+m))) e)).ownsRow base e i.size
    (.slice (some ⟨w.heap.size,0,none⟩) (n+m) (grownCap w (n+m) old e)) (n+m) (xs++news) ∧
   w.grownBy (w.drew.alloc (.cells (xs.toArray++news.toArray++Builtin.zeroCells z.cells (grownCap w (n+m) old e-(n+m))) e)) row:=by
  intro old ho row
  have hge:=grownCap_ge w (n+m) old e
  have hcm:grownCap w (n+m) old e≤maxLen:=grownCap_le_maxLen w (n+m) old e h63
  refine ⟨⟨hlen,.inr ⟨w.heap.size,_,_,rfl,hbase,heap_alloc_new w.drew _,hge,hcm,?_,?_⟩⟩,⟨rfl,rfl,rfl,by simp,(World.grownBy_alloc w.drew _ row).block⟩⟩
  ·simp only [Array.size_append,List.size_toArray,size_zeroCells,hzs,hown.1,hl,←Nat.add_mul]
   congr 1
   omega
  ·simp only [Array.toList_append,List.append_assoc]
   rw [←List.append_assoc,←hlen]
   exact List.take_left
 rcases hown.2 with ⟨rfl,rfl⟩|⟨g,cap,cur,rfl,hbg,hg,hnc,hcm,hcs,htake⟩
 ·have hx:xs=[]:=List.eq_nil_of_length_eq_zero (by simpa using hown.1)
  subst hx
  have hr:=fun ty=>run_append_nil (P:=P) w t ty e i z ht hi hz a m c news hl hnews (by omega) (by omega) (by have hb:=hbytes;simp only [Nat.zero_add] at hb;omega)
  have hgr:=grown 0 (by omega) (Value.ownBlock (.slice none 0 0))
  simp only [Nat.zero_add,List.nil_append,Array.empty_append] at hgr ⊢
  exact ⟨_,_,hr,hgr.1,hgr.2,.inr (.inr ⟨w.heap.size,rfl,Nat.le_refl _⟩)⟩
 ·by_cases hroom:n+m≤cap
  ·have hfit:n * i.size+news.length≤cur.size:=by rw [hl,hcs,←Nat.add_mul];exact Nat.mul_le_mul_right _ hroom
   have hr:=fun ty=>run_append_room (P:=P) w t ty e i ht hi g n cap cur hg a m c news hl hnews h1 hroom hfit
   refine ⟨_,_,hr,⟨hlen,.inr ⟨g,cap,_,rfl,hbg,setRow_heap w g cur _ e _ hg,hroom,hcm,?_,?_⟩⟩,grownBy_setRow _ _ _,.inl rfl⟩
   ·simp only [List.size_toArray,List.length_append,List.length_take,List.length_drop,Array.length_toList]
    omega
   ·rw [htake,←hlen]
    exact List.take_left
  ·have holds:∀ j u,xs[j]? = some u→w.cell? ((⟨g,0,none⟩:Addr).add j)=some u:=hown.cells (g:=g) rfl
   have hr:=fun ty=>run_append_grow (P:=P) w t ty e i z ht hi hz ⟨g,0,none⟩ n cap xs hown.1 holds a m c news hl hnews (by omega) (by omega) (growslice_fits (by omega) hbytes)
   have hgr:=grown cap (by omega) (Value.ownBlock (.slice (some ⟨g,0,none⟩) n cap))
   exact ⟨_,_,hr,hgr.1,hgr.2,.inr (.inr ⟨w.heap.size,rfl,Nat.le_refl _⟩)⟩

theorem ins_list {α:Type} (cur mid xs rest:List α) (p:Nat) (h:p+xs.length≤cur.length) (N:Nat) (hN:N=p+xs.length+mid.length) :
  ((cur.take (p+xs.length)++mid++rest).take p++xs++(cur.take (p+xs.length)++mid++rest).drop (p+xs.length)).take N=cur.take p++xs++mid:=by
 have hl:(cur.take (p+xs.length)).length=p+xs.length:=by simp;omega
 have e1:(cur.take (p+xs.length)++mid++rest).take p=cur.take p:=by
  rw [List.append_assoc,List.take_append_of_le_length (by rw [hl];omega),List.take_take,Nat.min_eq_left (by omega)]
 have e2:(cur.take (p+xs.length)++mid++rest).drop (p+xs.length)=mid++rest:=by
  rw [List.append_assoc,List.drop_append_of_le_length (by omega),List.drop_of_length_le (by omega),List.nil_append]
 rw [e1,e2,←List.append_assoc]
 have hl2:(cur.take p++xs++mid).length=N:=by simp;omega
 rw [←hl2,List.take_left]

section
variable {α : Type} {f : α → List Value} {K : Nat}
theorem flat_len (hf:∀ x,(f x).length=K):∀ xs:List α,(xs.flatMap f).length=xs.length * K
 | []=>by simp
 | x :: xs=>by rw [List.flatMap_cons,List.length_append,hf,flat_len hf xs,List.length_cons,Nat.add_mul];omega
theorem flat_take (hf:∀ x,(f x).length=K):∀ (xs:List α) (i:Nat),(xs.flatMap f).take (i * K)=(xs.take i).flatMap f
 | [],i=>by simp
 | x :: xs,0=>by simp
 | x :: xs,i+1=>by
  rw [List.flatMap_cons,List.take_succ_cons,List.flatMap_cons,←flat_take hf xs i,show (i+1) * K=(f x).length+i * K by rw [hf,Nat.add_mul];omega,List.take_append]
  rw [List.take_of_length_le (Nat.le_add_right _ _),Nat.add_sub_cancel_left]
theorem flat_drop (hf:∀ x,(f x).length=K):∀ (xs:List α) (i:Nat),(xs.flatMap f).drop (i * K)=(xs.drop i).flatMap f
 | [],i=>by simp
 | x :: xs,0=>by simp
 | x :: xs,i+1=>by
  rw [List.flatMap_cons,List.drop_succ_cons,←flat_drop hf xs i,show (i+1) * K=(f x).length+i * K by rw [hf,Nat.add_mul];omega,List.drop_append]
  rw [List.drop_of_length_le (Nat.le_add_right _ _),Nat.add_sub_cancel_left,List.nil_append]
theorem flat_get (hf:∀ x,(f x).length=K) {xs:List α} {i:Nat} {x:α} (hi:xs[i]? = some x) {j:Nat} (hj:j<K):(xs.flatMap f)[i * K+j]? = (f x)[j]?:=by
 have h1:=flat_drop hf xs i
 have h2:((xs.flatMap f).drop (i * K))[j]? = (f x)[j]?:=by
  rw [h1]
  have hlt:=(List.getElem?_eq_some_iff.1 hi).1
  rw [List.drop_eq_getElem_cons hlt,List.flatMap_cons,List.getElem?_append_left (by rw [hf];exact hj),(List.getElem?_eq_some_iff.1 hi).2]
 rw [←h2,List.getElem?_drop]
end
end

section
variable {P : Program}
theorem run_clear_row (w:World) (t e:TypeId) (z:Value) (K:Nat) (ht:P.underlying t=some (.slice e)) (hv:∀ w,(zeroValue e).run P w=.ok z w) (hz:z.cells.size=K) (h1:∀ u∈z.cells.toList,u.oneCell'=true) (g o n c:Nat) (cur:Array Value) (ty':TypeId)
  (hg:w.heap[g]? = some (.cells cur ty' (0,0))) (hn:0<n) (hfit:o+n * K≤cur.size) (ty:TypeId) :
  (Builtin.clear_ #[t] ty #[.slice (some ⟨g,o,none⟩) n c]).run P w=.ok (.tuple #[]) (w.setRow g (cur.toList.take o++(Builtin.zeroCells z.cells n).toList++cur.toList.drop (o+n * K)).toArray):=by
 have hl:(Builtin.zeroCells z.cells n).toList.length=n * K:=by rw [Array.length_toList,size_zeroCells,hz]
 have hst:=run_storeCells_at P g o ty' (Builtin.zeroCells z.cells n).toList 0 cur w hg (by simpa [hl] using hfit) (fun u hu=>by
  obtain ⟨j,hj,rfl⟩:∃ j,j<n * z.cells.size∧z.cells[j % z.cells.size]! = u:=by
   simpa [Builtin.zeroCells] using hu
  by_cases hK:z.cells.size=0
  ·simp [hK] at hj
  ·refine h1 _ ?_
   rw [getElem!_pos z.cells _ (Nat.mod_lt _ (by omega))]
   exact Array.mem_toList_iff.2 (Array.getElem_mem _))
 simp only [Nat.add_zero,hl] at hst
 obtain ⟨m,rfl⟩:∃ m,n=m+1:=⟨n-1,by omega⟩
 simp [Builtin.clear_,run_underlying ht,hv,hst]
end

theorem hid' {p:Prop} (h:p):Hid p:=h

theorem vItemInfo:(Tryz.prog.info? 146).map (fun i=>(i.zero,i.size,i.bytes))=some (some (.agg #[.float .f64 0,.int .i64 0]),2,16):=by kernel_rfl

set_option maxRecDepth 100000 in
theorem vIns_end (v:Value) (vb B n:Nat) (cs xs:List Value) (w:World) (hB:B≤w.heap.size) (hown:w.ownsRow B 146 2 v n cs) (hn:n≤4294967296) (hxl:xs.length=2) (h1x:∀ u∈xs,u.oneCell'=true)
  (hx:∀ j u,xs[j]? = some u→w.cell? ((⟨vb,0,none⟩:Addr).add j)=some u) :
  ∃ v' w',w'.ownsRow B 146 2 v' (n+1) (cs++xs)∧Grew w w' v v' ∧
   Calls Tryz.prog 194 #[v,.int .i64 n,.slice (some ⟨vb,0,none⟩) 1 1] w fun e W=>e=.returned v'∧W=w':=by
 obtain ⟨i0,hi0,hz0,hzs,hzb⟩:=info_parts vItemInfo
 obtain ⟨v',w',hr,h2,h3⟩:=run_append_own2 w B 143 146 i0 _ 2 16 Tryz.underlying143 hi0 hz0 hzs hzb rfl (by omega) v n cs hown ⟨vb,0,none⟩ 1 1 xs (by omega) hx h1x (by omega) (by unfold maxLen;omega) (by omega) hB
 refine ⟨v',w',h2,h3,?_⟩
 clear h2 h3 hx h1x
 rcases hown.2 with ⟨rfl,rfl⟩|⟨g,cap,cur,rfl,hbg,hg,hnc,hcm,hcs,htake⟩
 ·clear hown
  go_enter Tryz.func194,Tryz.ntmps194
  go_wp2_with (at_builtin;refine Lib.wpList_append_run _ rfl _ _ _ _ rfl _ _ rfl rfl _ _ (hr _) ?_)
  go_ret
  exact ⟨rfl,rfl⟩
 ·clear hown hg hcs htake
  unfold maxLen at hcm
  by_cases hcn:cap=n
  ·subst hcn
   go_enter Tryz.func194,Tryz.ntmps194
   go_wp2_with (at_builtin;refine Lib.wpList_append_run _ rfl _ _ _ _ rfl _ _ rfl rfl _ _ (hr _) ?_)
   all_goals (go_ret;exact ⟨rfl,rfl⟩)
  ·go_enter Tryz.func194,Tryz.ntmps194
   go_wp2_with (at_builtin;refine Lib.wpList_append_run _ rfl _ _ _ _ rfl _ _ rfl rfl _ _ (hr _) ?_)
   all_goals (go_ret;exact ⟨rfl,rfl⟩)

theorem cell_row {w:World} {g:Nat} {cur:Array Value} {t:TypeId} (h:w.heap[g]? = some (.cells cur t (0,0))) (j:Nat):w.cell? ⟨g,j,none⟩=cur[j]?:=cell_of_row w g j cur t (0,0) h
theorem addr0 (g j:Nat):(⟨g,0,none⟩:Addr).add j=⟨g,j,none⟩:=by rw [Addr.add_lit,Nat.zero_add]

set_option maxRecDepth 100000 in
theorem vIns_shift (g n c i vb:Nat) (cur:Array Value) (xs:List Value) (w:World) (hi:i<n) (hroom:n+1≤c) (hc:c≤9223372036854775807) (hvb:vb≠g)
  (hg:w.heap[g]? = some (.cells cur 146 (0,0))) (hcur:cur.size=c * 2) (h1c:∀ u∈cur.toList.take (n * 2),u.oneCell'=true) (hxl:xs.length=2) (h1x:∀ u∈xs,u.oneCell'=true)
  (hv:w.heap[vb]? = some (.cells xs.toArray 146 (0,0))) :
  Calls Tryz.prog 194 #[.slice (some ⟨g,0,none⟩) n c,.int .i64 i,.slice (some ⟨vb,0,none⟩) 1 1] w fun e W=>e=.returned (.slice (some ⟨g,0,none⟩) (n+1) c)∧w.grownBy W (some g) ∧
   ∃ cur':Array Value,W.heap[g]? = some (.cells cur' 146 (0,0))∧cur'.size=cur.size∧cur'.toList.take ((n+1) * 2)=cur.toList.take (i * 2)++xs++(cur.toList.take (n * 2)).drop (i * 2):=by
 obtain ⟨i0,hi0,hz0,hzs,hzb⟩:=info_parts vItemInfo
 have hsz:(Tryz.prog.info? 146).map (·.size)=some 2:=by rw [hi0];simp [hzs]
 obtain ⟨mid,hmid⟩:∃ mid,mid=(cur.toList.take (n * 2)).drop (i * 2):=⟨_,rfl⟩
 have hml:mid.length=(n-i) * 2:=by rw [hmid];simp;omega
 have h1m:∀ u∈mid,u.oneCell'=true:=fun u hu=>h1c u (by rw [hmid] at hu;exact List.mem_of_mem_drop hu)
 have hmc:∀ j u,mid[j]? = some u→w.drew.cell? ((⟨g,i * 2,none⟩:Addr).add j)=some u:=fun j u hj=>by
  rw [hmid,List.getElem?_drop,List.getElem?_take] at hj
  split at hj
  ·rw [Addr.add_lit]
   show w.cell? _=_
   rw [cell_row hg];simpa using hj
  ·cases hj
 have hcp1:=fun ty dc sc=>run_copy_rowK (P:=Tryz.prog) w.drew 143 143 ty 146 2 g ((i+1) * 2) (n-i) dc ⟨g,i * 2,none⟩ (n+1-i) sc cur 146 mid Tryz.underlying143 hsz (show w.drew.heap[g]? = _ from hg)
  (by rw [hml];simp only [Nat.min_def];split <;> omega) hmc (by rw [hml,hcur];omega) h1m
 obtain ⟨R1,hR1⟩:∃ R1:Array Value,R1=(cur.toList.take ((i+1) * 2)++mid++cur.toList.drop ((i+1) * 2+mid.length)).toArray:=⟨_,rfl⟩
 rw [←hR1] at hcp1
 have hR1s:R1.size=cur.size:=by rw [hR1];simp [hml,hcur];omega
 obtain ⟨w1,hw1⟩:∃ w1,w1=w.drew.setRow g R1:=⟨_,rfl⟩
 rw [←hw1] at hcp1
 have hg1:w1.heap[g]? = some (.cells R1 146 (0,0)):=by rw [hw1];exact setRow_heap w.drew g cur _ _ (0,0) hg
 have hv1:w1.heap[vb]? = some (.cells xs.toArray 146 (0,0)):=by rw [hw1,setRow_other _ _ _ _ hvb];exact hv
 have hcp2:=fun ty dc=>run_copy_rowK (P:=Tryz.prog) w1 143 143 ty 146 2 g (i * 2) (n+1-i) dc ⟨vb,0,none⟩ 1 1 R1 146 xs Tryz.underlying143 hsz hg1
  (by rw [hxl];simp only [Nat.min_def];split <;> omega) (fun j u hj=>by rw [addr0,cell_row hv1];simpa using hj) (by rw [hxl,hR1s,hcur];omega) h1x
 obtain ⟨R2,hR2⟩:∃ R2:Array Value,R2=(R1.toList.take (i * 2)++xs++R1.toList.drop (i * 2+xs.length)).toArray:=⟨_,rfl⟩
 rw [←hR2] at hcp2
 have fin:w.grownBy (w1.setRow g R2) (some g)∧∃ cur':Array Value,(w1.setRow g R2).heap[g]? = some (.cells cur' 146 (0,0))∧cur'.size=cur.size∧cur'.toList.take ((n+1) * 2)=cur.toList.take (i * 2)++xs++(cur.toList.take (n * 2)).drop (i * 2):=by
  refine ⟨?_,R2,setRow_heap w1 g R1 _ _ (0,0) hg1,by rw [hR2];simp [hxl,hR1s,hcur];omega,?_⟩
  ·rw [hw1]
   have a1:=grownBy_setRow w.drew g R1
   have a2:=grownBy_setRow (w.drew.setRow g R1) g R2
   exact ⟨rfl,rfl,rfl,by simp,fun k hk hne=>(a2.block k (by simpa using hk) hne).trans (a1.block k hk hne)⟩
  ·have:=ins_list cur.toList mid xs (cur.toList.drop ((i+1) * 2+mid.length)) (i * 2) (by simp [hxl,hcur];omega) ((n+1) * 2) (by rw [hxl,hml];omega)
   rw [←hmid,←this,hR2,hR1]
   simp only [hxl,show (i+1) * 2=i * 2+2 by omega]
 have hov:∀ lb cb,(callFunc 235 #[.slice (some ⟨vb,0,none⟩) 1 1,.slice (some ⟨g,(i+1) * 2,none⟩) lb cb]).run Tryz.prog w=.ok (.value (.bool false)) w:=fun lb cb=>by
  rw [run_callFunc_extern Tryz.func235 (by kernel_rfl) (by kernel_rfl) (by kernel_rfl) (e:=Extern.SlicesOverlaps.overlaps #[143,143] #[4]) (by kernel_rfl),
   Lib.run_overlaps_apart w 143 4 146 Tryz.underlying143 2 Tryz.sizeOf146 ⟨vb,0,none⟩ ⟨g,(i+1) * 2,none⟩ 1 1 lb cb hvb 146 146 2 cur.size (by simp [World.shape?,hv,hxl]) (by simp [World.shape?,hg]) (by omega) (by simp [World.frozen?,hv]) (by simp [World.frozen?,hv])]
  rfl
 have hb2:¬(c=i+1):=by omega
 have hb4:¬(c=i):=by omega
 have hz3:((i:Int) == (n:Int))=false:=by simp;omega
 have hroom':decide ((c:Int)<(n:Int)+1)=false:=by simp;omega
 have hwrap:IntKind.i64.wrap ((i:Int)+1)=(i:Int)+1:=by rw [IntKind.wrap_i64];omega
 have hb1:(0:Int)≤(i:Int)+1:=by omega
 have hin:i≤n:=by omega
 have htn:((i:Int)+1).toNat=i+1:=by omega
 have hb3:(i:Int)≤(n:Int)+1:=by omega
 have hfin:=hid' fin
 clear fin hR2 hv1 hg1 hR1s hmc h1m hml hmid hv hxl h1x hg hcur h1c hR1
 have hW1:=hid' hw1
 clear hw1
 go_enter Tryz.func194,Tryz.ntmps194
 go_wp2_with (simp only [hov])
 go_region_law (refine step_copy_runI rfl _ _ 143 143 rfl _ _ (by simp [Act.eval,Act.put]) (by simp [Act.eval,Act.put]) (hcp1 _ _ _) ?_)
 go_wp2_with (at_builtin;refine wpList_copy_runI _ rfl _ _ 143 143 rfl _ _ rfl rfl (hcp2 _ _) ?_)
 go_ret
 exact ⟨rfl,hfin.out⟩

set_option maxRecDepth 100000 in
theorem vIns_grow (g n i vb:Nat) (cur:Array Value) (xs:List Value) (w:World) (hi:i<n) (hn:n≤4294967296)
  (hg:w.heap[g]? = some (.cells cur 146 (0,0))) (hcur:cur.size=n * 2) (h1c:∀ u∈cur.toList.take (n * 2),u.oneCell'=true) (hxl:xs.length=2) (h1x:∀ u∈xs,u.oneCell'=true)
  (hv:w.heap[vb]? = some (.cells xs.toArray 146 (0,0))) :
  ∃ G,n+1≤G∧G≤maxLen∧Calls Tryz.prog 194 #[.slice (some ⟨g,0,none⟩) n n,.int .i64 i,.slice (some ⟨vb,0,none⟩) 1 1] w fun e W=>e=.returned (.slice (some ⟨w.heap.size,0,none⟩) (n+1) G)∧w.grownBy W (some g) ∧
   ∃ cur':Array Value,W.heap[w.heap.size]? = some (.cells cur' 146 (0,0))∧cur'.size=G * 2∧cur'.toList.take ((n+1) * 2)=cur.toList.take (i * 2)++xs++(cur.toList.take (n * 2)).drop (i * 2):=by
 obtain ⟨i0,hi0,hz0,hzs,hzb⟩:=info_parts vItemInfo
 have hsz:(Tryz.prog.info? 146).map (·.size)=some 2:=by rw [hi0];simp [hzs]
 have hgN:g<w.heap.size:=(Array.getElem?_eq_some_iff.1 hg).1
 have hvN:vb<w.heap.size:=(Array.getElem?_eq_some_iff.1 hv).1
 obtain ⟨N,hN⟩:∃ N,N=w.heap.size:=⟨_,rfl⟩
 obtain ⟨mid,hmid⟩:∃ mid,mid=(cur.toList.take (n * 2)).drop (i * 2):=⟨_,rfl⟩
 have hml:mid.length=(n-i) * 2:=by rw [hmid];simp;omega
 have h1m:∀ u∈mid,u.oneCell'=true:=fun u hu=>h1c u (by rw [hmid] at hu;exact List.mem_of_mem_drop hu)
 have hol:(cur.toList.take (i * 2)).length=i * 2:=by simp;omega
 have hold:(Builtin.firstCells i0.size i (.slice (some ⟨g,0,none⟩) i n)).run Tryz.prog w.drew=.ok (cur.toList.take (i * 2)).toArray w.drew:=by
  rw [hzs]
  exact run_firstCells_some w.drew 2 i ⟨g,0,none⟩ i n (cur.toList.take (i * 2)) (by rw [hol]) (fun j v hj=>by
   rw [addr0]
   show w.cell? _=_
   rw [cell_row hg]
   rw [List.getElem?_take] at hj
   split at hj
   ·simpa using hj
   ·cases hj)
 obtain ⟨G,hG⟩:∃ G,G=grownCap w (n+1) n 146:=⟨_,rfl⟩
 have hGn:n+1≤G:=by rw [hG];exact grownCap_ge w _ _ _
 have hGm:G≤maxLen:=by rw [hG];exact grownCap_le_maxLen w (n+1) n 146 (by unfold maxLen;omega)
 refine ⟨G,hGn,hGm,?_⟩
 unfold maxLen at hGm
 have hkk:(n:Int)+1-(i:Int)=((n+1-i:Nat):Int):=by omega
 have hik:i+(n+1-i)=n+1:=by omega
 obtain ⟨R0,hR0⟩:∃ R0:Array Value,R0=(cur.toList.take (i * 2)).toArray++Builtin.zeroCells (Value.agg #[.float .f64 0,.int .i64 0]).cells (n+1-i)++Builtin.zeroCells (Value.agg #[.float .f64 0,.int .i64 0]).cells (G-(n+1)):=⟨_,rfl⟩
 have hR0s:R0.size=G * 2:=by
  rw [hR0];simp only [Array.size_append,List.size_toArray,hol,size_zeroCells,Value.cells]
  simp;omega
 have hrz:∀ ty,(Builtin.append_ #[143,3] ty #[.slice (some ⟨g,0,none⟩) i n,.int .i64 ((n:Int)+1-(i:Int))]).run Tryz.prog w =
   .ok (.slice (some ⟨N,0,none⟩) (n+1) G) (w.drew.alloc (.cells R0 146)):=fun ty=>by
  have h:=Lib.run_append_grow_zeros w 143 3 ty 146 i0 _ .i64 .i64 Tryz.underlying143 Tryz.underlying3 hi0 hz0 (some ⟨g,0,none⟩) i n (cur.toList.take (i * 2)) hold (n+1-i) (by omega) (by omega) (by omega) (by omega) (by rw [hzb];omega)
   (by rw [hzb,hik];exact growslice_fits (by omega) (by omega))
  rw [hik] at h
  rw [hkk,hN,hR0,hG]
  exact h
 obtain ⟨w1,hw1⟩:∃ w1,w1=w.drew.alloc (.cells R0 146):=⟨_,rfl⟩
 have h1:w1.heap[N]? = some (.cells R0 146 (0,0)):=by rw [hw1,hN];exact heap_alloc_new w.drew _
 have hold1:∀ k,k<w.heap.size→w1.heap[k]? = w.heap[k]?:=fun k hk=>by
  rw [hw1];exact (World.grownBy_alloc w.drew (.cells R0 146) none).block k hk (by simp)
 have hv1:w1.heap[vb]? = some (.cells xs.toArray 146 (0,0)):=by rw [hold1 vb hvN];exact hv
 have hg1:w1.heap[g]? = some (.cells cur 146 (0,0)):=by rw [hold1 g hgN];exact hg
 obtain ⟨R1,hR1⟩:∃ R1:Array Value,R1=(R0.toList.take (i * 2)++xs++R0.toList.drop (i * 2+xs.length)).toArray:=⟨_,rfl⟩
 have hR1s:R1.size=G * 2:=by rw [hR1];simp [hxl,hR0s];omega
 have hcpA:∀ W:World,W.heap=w1.heap→∀ ty dc,(Builtin.copy_ #[143,143] ty #[.slice (some ⟨N,i * 2,none⟩) (n+1-i) dc,.slice (some ⟨vb,0,none⟩) 1 1]).run Tryz.prog W=.ok (goInt (Nat.min 1 (n+1-i))) (W.setRow N R1):=fun W hW ty dc=>by
  rw [hR1]
  exact run_copy_rowK (P:=Tryz.prog) W 143 143 ty 146 2 N (i * 2) (n+1-i) dc ⟨vb,0,none⟩ 1 1 R0 146 xs Tryz.underlying143 hsz (by rw [hW];exact h1)
   (by rw [hxl];simp only [Nat.min_def];split <;> omega) (fun j u hj=>by rw [addr0,cell_row (by rw [hW];exact hv1)];simpa using hj) (by rw [hxl,hR0s];omega) h1x
 obtain ⟨R2,hR2⟩:∃ R2:Array Value,R2=(R1.toList.take ((i+1) * 2)++mid++R1.toList.drop ((i+1) * 2+mid.length)).toArray:=⟨_,rfl⟩
 obtain ⟨w2,hw2⟩:∃ w2,w2=w1.setRow N R1:=⟨_,rfl⟩
 have h2:w2.heap[N]? = some (.cells R1 146 (0,0)):=by rw [hw2];exact setRow_heap w1 N R0 _ _ (0,0) h1
 have hg2:w2.heap[g]? = some (.cells cur 146 (0,0)):=by rw [hw2,setRow_other _ _ _ _ (by omega)];exact hg1
 have hcpB:∀ W:World,W.heap=w2.heap→∀ ty dc sc,(Builtin.copy_ #[143,143] ty #[.slice (some ⟨N,(i+1) * 2,none⟩) (n-i) dc,.slice (some ⟨g,i * 2,none⟩) (n-i) sc]).run Tryz.prog W=.ok (goInt (Nat.min (n-i) (n-i))) (W.setRow N R2):=fun W hW ty dc sc=>by
  rw [hR2]
  exact run_copy_rowK (P:=Tryz.prog) W 143 143 ty 146 2 N ((i+1) * 2) (n-i) dc ⟨g,i * 2,none⟩ (n-i) sc R1 146 mid Tryz.underlying143 hsz (by rw [hW];exact h2)
   (by rw [hml];simp only [Nat.min_def];split <;> omega) (fun j u hj=>by
    rw [hmid,List.getElem?_drop,List.getElem?_take] at hj
    split at hj
    ·rw [Addr.add_lit,cell_row (by rw [hW];exact hg2)];simpa using hj
    ·cases hj) (by rw [hml,hR1s];omega) h1m
 have fin:∀ W:World,W.os=w.os→W.tape=w.tape→W.output=w.output→W.heap=(w2.setRow N R2).heap→w.grownBy W (some g)∧∃ cur':Array Value,W.heap[w.heap.size]? = some (.cells cur' 146 (0,0))∧cur'.size=G * 2∧cur'.toList.take ((n+1) * 2)=cur.toList.take (i * 2)++xs++(cur.toList.take (n * 2)).drop (i * 2):=by
  intro W q1 q2 q3 q4
  have hsz2:w.heap.size≤W.heap.size:=by rw [q4,hw2,hw1];simp
  refine ⟨⟨q1,q2,q3,hsz2,fun k hk _=>?_⟩,R2,?_,by rw [hR2];simp [hml,hR1s];omega,?_⟩
  ·rw [q4,setRow_other _ _ _ _ (by omega),hw2,setRow_other _ _ _ _ (by omega)];exact hold1 k hk
  ·rw [q4,←hN];exact setRow_heap w2 N R1 _ _ (0,0) h2
  ·have e0:R0.toList.take (i * 2)=cur.toList.take (i * 2):=by
    rw [hR0]
    simp only [Array.toList_append,List.append_assoc]
    rw [List.take_append_of_le_length (by rw [hol];exact Nat.le_refl _),List.take_of_length_le (by rw [hol];exact Nat.le_refl _)]
   rw [hR2,←hmid]
   have el:(R1.toList.take ((i+1) * 2))=cur.toList.take (i * 2)++xs:=by
    rw [hR1,e0]
    show ((cur.toList.take (i * 2)++xs)++_).take _=_
    have hl:(cur.toList.take (i * 2)++xs).length=(i+1) * 2:=by rw [List.length_append,hol,hxl];omega
    rw [←hl,List.take_left]
   rw [el]
   show ((cur.toList.take (i * 2)++xs++mid)++_).take _=_
   have hl:(cur.toList.take (i * 2)++xs++mid).length=(n+1) * 2:=by rw [List.length_append,List.length_append,hol,hxl,hml];omega
   rw [←hl,List.take_left]
 have hb4:¬(n=i):=by omega
 have hz3:((i:Int) == (n:Int))=false:=by simp;omega
 have hroom':decide ((n:Int)<(n:Int)+1)=true:=by simp;omega
 have hwrap:IntKind.i64.wrap ((i:Int)+1)=(i:Int)+1:=by rw [IntKind.wrap_i64];omega
 have hb1:(0:Int)≤(i:Int)+1:=by omega
 have hin:i≤n:=by omega
 have hin1:i≤n+1:=by omega
 have htn:((i:Int)+1).toNat=i+1:=by omega
 have hb3:(i:Int)≤(n:Int):=by omega
 have hGi:¬(G=i):=by omega
 have hGim:¬(G=i+1):=by omega
 have hW1:=hid' hw1
 have hW2:=hid' hw2
 have hNN:=hid' hN
 rw [hw1] at hcpA hw2
 rw [hw2] at hcpB fin
 clear hw1 hw2 hN hR2 hR1 hR0 hG hcur h1c hxl h1x hv hg h1 hv1 hg1 h2 hg2 hml h1m hmid hol hold hkk hik hR0s hR1s hold1 hi0 hz0 hzs hzb hsz
 have hfin:=hid' fin
 clear fin
 have hcpA':=hcpA ((w.alloc (.cells R0 146)).drew) rfl
 have hcpB':=hcpB ((((w.alloc (.cells R0 146)).drew).setRow N R1).drew) rfl
 clear hcpA hcpB
 go_enter Tryz.func194,Tryz.ntmps194
 go_wp2_with (at_builtin;refine Lib.wpList_append_run _ rfl _ _ _ _ rfl _ _ rfl rfl _ _ (hrz _) ?_)
 go_region_law (refine step_copy_runI rfl _ _ 143 143 rfl _ _ (by simp [Act.eval,Act.put]) (by simp [Act.eval,Act.put]) (hcpB' _ _ _) ?_)
 go_wp2
 go_ret
 exact ⟨by rw [←hNN.out];rfl,hfin.out _ rfl rfl rfl rfl⟩

def InsRet (w:World) (B:Nat) (T:TypeId) (K:Nat) (v:Value) (n:Nat) (cs:List Value) (e:Ending) (W:World):Prop:=∃ v',e=.returned v'∧W.ownsRow B T K v' n cs∧Grew w W v v'

theorem vInsert (v:Value) (vb B n i:Nat) (cs xs:List Value) (w:World) (hB:B≤w.heap.size) (hown:w.ownsRow B 146 2 v n cs) (hn:n≤4294967296) (hi:i≤n) (h1c:∀ u∈cs,u.oneCell'=true) (hxl:xs.length=2) (h1x:∀ u∈xs,u.oneCell'=true)
  (hv:w.heap[vb]? = some (.cells xs.toArray 146 (0,0))) (hvb:v.ownBlock≠some vb) :
  Calls Tryz.prog 194 #[v,.int .i64 i,.slice (some ⟨vb,0,none⟩) 1 1] w (InsRet w B 146 2 v (n+1) (cs.take (i * 2)++xs++cs.drop (i * 2))):=by
 have hcl:cs.length=n * 2:=hown.1
 by_cases hin:i=n
 ·subst hin
  obtain ⟨v',w',h1,h2,h3⟩:=vIns_end v vb B i cs xs w hB hown hn hxl h1x (fun j u hj=>by rw [addr0,cell_row hv];simpa using hj)
  refine h3.mono fun e W ⟨he,hW⟩=>?_
  subst hW
  refine ⟨v',he,?_,h2⟩
  rw [List.take_of_length_le (by omega),List.drop_of_length_le (by omega),List.append_nil]
  exact h1
 ·have hlt:i<n:=by omega
  rcases hown.2 with ⟨rfl,h0⟩|⟨g,cap,cur,rfl,hbg,hg,hnc,hcm,hcs,htake⟩
  ·subst h0;simp at hcl;omega
  ·have hvg:vb≠g:=fun h=>hvb (by subst h;rfl)
   have htk:cur.toList.take (n * 2)=cs:=htake
   by_cases hroom:n+1≤cap
   ·refine (vIns_shift g n cap i vb cur xs w hlt hroom (by unfold maxLen at hcm;omega) hvg hg hcs (by rw [htk];exact h1c) hxl h1x hv).mono fun e W ⟨he,hgr,cur',q1,q2,q3⟩=>?_
    have e1:cur.toList.take (i * 2)=cs.take (i * 2):=by rw [←htk,List.take_take,Nat.min_eq_left (by omega)]
    rw [htk,e1] at q3
    have hl3:(cs.take (i * 2)++xs++cs.drop (i * 2)).length=(n+1) * 2:=by simp [hxl,hcl];omega
    exact ⟨_,he,⟨hl3,.inr ⟨g,cap,cur',rfl,hbg,q1,hroom,hcm,by rw [q2,hcs],q3⟩⟩,hgr,.inl rfl⟩
   ·obtain rfl:cap=n:=by omega
    obtain ⟨G,g1,g2,h3⟩:=vIns_grow g cap i vb cur xs w hlt hn hg hcs (by rw [htk];exact h1c) hxl h1x hv
    refine h3.mono fun e W ⟨he,hgr,cur',q1,q2,q3⟩=>?_
    have e1:cur.toList.take (i * 2)=cs.take (i * 2):=by rw [←htk,List.take_take,Nat.min_eq_left (by omega)]
    rw [htk,e1] at q3
    have hl3:(cs.take (i * 2)++xs++cs.drop (i * 2)).length=(cap+1) * 2:=by simp [hxl,hcl];omega
    exact ⟨_,he,⟨hl3,.inr ⟨w.heap.size,G,cur',rfl,hB,q1,g1,g2,q2,q3⟩⟩,hgr,.inr (.inr ⟨w.heap.size,rfl,Nat.le_refl _⟩)⟩
open Go.RowKit Fl

structure ItV where
 k:Key
 n:Int
instance:Inhabited ItV:=⟨⟨kzero,0⟩⟩
def ItV.enc (x:ItV):List Value:=[.float .f64 x.k.bits,.int .i64 x.n]
theorem ItV.enc_len (x:ItV):x.enc.length=2:=rfl
theorem ItV.enc_one (x:ItV):∀ u∈x.enc,u.oneCell'=true:=by intro u hu;simp [ItV.enc] at hu;rcases hu with rfl|rfl <;> rfl

theorem vPlace1_any (k:Key) (n:Int) (kb:Nat) (w:World) (hk:kb<2 ^ 64) :
  Calls Tryz.prog 234 #[.agg #[.float .f64 k.bits,.int .i64 n],.float .f64 kb] w (Ret (.int .i64 (cmpI (codeOf k.bits) (codeOf kb))) w):=by
 have H:=fun W=>floCmp_any k.bits kb (Key.bits_lt k) hk W
 generalize cmpI (codeOf k.bits) (codeOf kb)=r at *
 go_enter Tryz.func234,Tryz.ntmps234
 go_wp2_with (go_at_call 214;(with_reducible refine (H _).mono ?_);rintro e w' ⟨rfl,rfl⟩)
 go_ret
 exact ⟨rfl,by exact below_auto⟩

def plcI (its:List ItV) (kb:Nat):Nat:=its.findIdx fun x=>!decide (codeOf x.k.bits<codeOf kb)
def plcB (its:List ItV) (kb:Nat):Bool:=match its[plcI its kb]? with|some x=>decide (codeOf x.k.bits=codeOf kb)|none=>false

set_option maxRecDepth 100000 in
theorem vSearch_row (b c n kb:Nat) (its:List ItV) (w:World) (hk:kb<2 ^ 64) (hn:its.length=n) (hlen:n≤4294967296)
  (hb:b<w.heap.size) (hc:∀ i,i<its.length→w.cell? ⟨b,i * 2,none⟩=some (.float .f64 (its[i]?.getD default).k.bits)∧w.cell? ⟨b,i * 2+1,none⟩=some (.int .i64 (its[i]?.getD default).n))
  (hmono:∀ s t:Nat,s≤t→∀ x y,its[s]? = some x→its[t]? = some y→codeOf y.k.bits<codeOf kb→codeOf x.k.bits<codeOf kb) :
  Calls Tryz.prog 233 #[.slice (some ⟨b,0,none⟩) n c,.float .f64 kb,.func (.func 234) #[] #[]] w (Ret (.tuple #[.int .i64 (plcI its kb),.bool (plcB its kb)]) w):=by
 have HC:=hid hc;have HN:=hid hn;have HM:=hid hmono
 clear hc hn hmono
 go_enter Tryz.func233,Tryz.ntmps233
 go_wp2
 go_loopw [9,10] (fun i j wr=>∃ s t:Nat,s≤t∧t≤n∧i=.int .i64 s∧j=.int .i64 t∧Hid (∀ m:Nat,m<s→∀ x,its[m]? = some x→codeOf x.k.bits<codeOf kb)∧Hid (∀ m:Nat,t≤m→∀ x,its[m]? = some x→codeOf kb≤codeOf x.k.bits)∧Below w.heap.size w wr) (fun i j _=>(intOf j).toNat-(intOf i).toNat)
 case atStart=>exact ⟨0,n,Nat.zero_le _,Nat.le_refl _,rfl,rfl,hid fun m hm=>absurd hm (Nat.not_lt_zero _),hid fun m hm x hx=>by have:=(List.getElem?_eq_some_iff.1 hx).1;have:=HN.out;omega,Below.refl _ _⟩
 case round =>
  obtain ⟨s,t,hst,htn,rfl,rfl,HA,HZ,hbw⟩:=hrel
  have hsz:=hbw.size
  by_cases hlt:s<t
  ·have hlt':(s:Int)<(t:Int):=by omega
   have hh1:s≤(s+t) / 2:=by omega
   have hh2:(s+t) / 2<t:=by omega
   have hmt:(s+t) / 2<its.length:=by rw [HN.out];omega
   obtain ⟨c0,c1⟩:=HC.out ((s+t) / 2) hmt
   have hkx:Hid (its[(s+t) / 2]? = some (its[(s+t) / 2]?.getD default)):=hid (by rw [List.getElem?_eq_getElem hmt];rfl)
   have d0:=(hbw.cell (p:=⟨b,_,none⟩) hb).trans c0
   have d1:=(hbw.cell (p:=⟨b,_,none⟩) hb).trans c1
   clear c0 c1
   generalize its[(s+t) / 2]?.getD default=x at *
   have H:=fun W=>vPlace1_any x.k x.n kb W hk
   have hbb:b<wr.heap.size:=by omega
   by_cases hc:codeOf x.k.bits<codeOf kb
   ·have hr:cmpI (codeOf x.k.bits) (codeOf kb) = -1:=by simp [cmpI,hc]
    have hcH:=hid hc
    simp only [hr] at H
    clear hr hc
    go_wp2_with (go_at_call 234;with_reducible refine mQ (H _) ?_;intro w1 hb1 hc1 hf1 hz1;intros)
    go_roundw
    case rel =>
     refine ⟨(s+t) / 2+1,t,by omega,htn,by first|go_num|(congr 1;omega),rfl,hid fun m hm y hy=>?_,HZ,by exact below_auto⟩
     exact HM.out m ((s+t) / 2) (by omega) y x hy hkx.out hcH.out
    case measure=>simp [intOf];omega
   ·have hr:decide (cmpI (codeOf x.k.bits) (codeOf kb)<0)=false:=by simp [cmpI,hc];split <;> omega
    have hcH:=hid hc
    generalize cmpI (codeOf x.k.bits) (codeOf kb)=r at *
    clear hc
    go_wp2_with (go_at_call 234;with_reducible refine mQ (H _) ?_;intro w1 hb1 hc1 hf1 hz1;intros)
    go_roundw
    case rel =>
     refine ⟨s,(s+t) / 2,by omega,by omega,rfl,by first|go_num|(congr 1;omega),HA,hid fun m hm y hy=>?_,by exact below_auto⟩
     have:=HM.out ((s+t) / 2) m hm x y hkx.out hy
     have:=hcH.out
     omega
    case measure=>simp [intOf];omega
  ·obtain rfl:s=t:=by omega
   have hp:plcI its kb=s:=by
    unfold plcI
    by_cases hsn:s<its.length
    ·rw [List.findIdx_eq hsn]
     refine ⟨?_,fun j hj=>?_⟩
     ·have:=HZ.out s (Nat.le_refl _) _ (List.getElem?_eq_getElem hsn)
      simpa using this
     ·have:=HA.out j hj _ (List.getElem?_eq_getElem (by omega))
      simpa using this
    ·have hsn':s=its.length:=by have:=HN.out;omega
     rw [hsn']
     exact List.findIdx_eq_length.2 fun x hx=>by
      obtain ⟨j,hj⟩:=List.mem_iff_getElem?.1 hx
      have hjl:=(List.getElem?_eq_some_iff.1 hj).1
      have:=HA.out j (by omega) x hj
      simpa using this
   by_cases hsn:s<n
   ·have hsl:s<its.length:=by rw [HN.out];exact hsn
    have hsn':(s:Int)<(n:Int):=by omega
    obtain ⟨c0,c1⟩:=HC.out s hsl
    have hkx:Hid (its[s]? = some (its[s]?.getD default)):=hid (by rw [List.getElem?_eq_getElem hsl];rfl)
    have d0:=(hbw.cell (p:=⟨b,_,none⟩) hb).trans c0
    have d1:=(hbw.cell (p:=⟨b,_,none⟩) hb).trans c1
    clear c0 c1
    have hq:plcB its kb=decide (codeOf (its[s]?.getD default).k.bits=codeOf kb):=by
     unfold plcB;rw [hp,List.getElem?_eq_getElem hsl];rfl
    generalize its[s]?.getD default=x at *
    have hbb:b<wr.heap.size:=by omega
    have H:=fun W=>vPlace1_any x.k x.n kb W hk
    have he:decide (codeOf x.k.bits=codeOf kb)=(cmpI (codeOf x.k.bits) (codeOf kb) == 0):=by
     unfold cmpI;split
     ·simp;omega
     ·split
      ·simp;omega
      ·simp;omega
    rw [he] at hq
    have HP:=hid hp;have HQ:=hid hq
    clear hp hq he
    generalize cmpI (codeOf x.k.bits) (codeOf kb)=r at *
    go_wp2_with (go_at_call 234;with_reducible refine mQ (H _) ?_;intro w1 hb1 hc1 hf1 hz1;intros)
    go_ret2
    exact ⟨by rw [HP.out,HQ.out];rfl,by exact below_auto⟩
   ·have hsn':decide ((s:Int)<(n:Int))=false:=by simp;omega
    have hq:plcB its kb=false:=by
     unfold plcB;rw [hp,List.getElem?_eq_none (by have:=HN.out;omega)]
    have HP:=hid hp;have HQ:=hid hq
    clear hp hq
    go_wp2
    go_ret2
    exact ⟨by rw [HP.out,HQ.out];rfl,by exact below_auto⟩

def itCells (its:List ItV):List Value:=its.flatMap ItV.enc
theorem itCells_len (its:List ItV):(itCells its).length=its.length * 2:=flat_len ItV.enc_len its
theorem itCells_one (its:List ItV):∀ u∈itCells its,u.oneCell'=true:=by
 intro u hu
 obtain ⟨x,_,hx⟩:=List.mem_flatMap.1 hu
 exact ItV.enc_one x u hx

structure TabAt (w:World) (B T:Nat) (v:Value) (most:Int) (its:List ItV):Prop where
 tab:w.heap[T]? = some (.cells #[.int .i64 most,v] 214 (0,0))
 own:w.ownsRow B 146 2 v its.length (itCells its)
 apart:v.ownBlock≠some T
 low:B≤T
 len:its.length≤64

theorem grown_of_below {w w':World} (h:Below w.heap.size w w'):w.grownBy w' none:=⟨h.os,h.tape,h.output,h.size,fun k hk _=>h.block k hk⟩
theorem TabAt.below {w w':World} {B T:Nat} {v:Value} {most:Int} {its:List ItV} (h:TabAt w B T v most its) (hb:Below w.heap.size w w'):TabAt w' B T v most its :=
 ⟨(hb.block T (Array.getElem?_eq_some_iff.1 h.tab).1).trans h.tab,h.own.kept (grown_of_below hb) (by cases v.ownBlock <;> simp),h.apart,h.low,h.len⟩
theorem TabAt.lt {w:World} {B T:Nat} {v:Value} {most:Int} {its:List ItV} (h:TabAt w B T v most its):T<w.heap.size:=(Array.getElem?_eq_some_iff.1 h.tab).1

structure Upd (w w':World) (T:Nat) (v v':Value):Prop where
 os:w'.os=w.os
 tape:w'.tape=w.tape
 output:w'.output=w.output
 size:w.heap.size≤w'.heap.size
 block:∀ k,k<w.heap.size→k≠T→some k≠v.ownBlock→w'.heap[k]? = w.heap[k]?
 own:v'.ownBlock=v.ownBlock∨v'.ownBlock=none∨∃ g,v'.ownBlock=some g∧w.heap.size≤g

def rises (its:List ItV):Prop:=its.Pairwise fun x y=>x.k.v<y.k.v

theorem rises_mono {its:List ItV} (h:rises its) (kb:Nat):∀ s t:Nat,s≤t→∀ x y,its[s]? = some x→its[t]? = some y→codeOf y.k.bits<codeOf kb→codeOf x.k.bits<codeOf kb:=by
 intro s t hst x y hx hy hlt
 rcases Nat.lt_or_ge s t with h1|h1
 ·have h2:=(List.pairwise_iff_getElem.1 h) s t (List.getElem?_eq_some_iff.1 hx).1 (List.getElem?_eq_some_iff.1 hy).1 h1
  rw [(List.getElem?_eq_some_iff.1 hx).2,(List.getElem?_eq_some_iff.1 hy).2] at h2
  rw [codeOf_key] at *
  have:=(kcode_lt x.k y.k).2 h2
  omega
 ·obtain rfl:s=t:=by omega
  rw [hx] at hy;cases hy;exact hlt

theorem it_some {its:List ItV} {k:Nat} (h:k<its.length):its[k]? = some (its[k]?.getD default):=by rw [List.getElem?_eq_getElem h];rfl
theorem own_cells {w:World} {B g n c:Nat} {its:List ItV} (h:w.ownsRow B 146 2 (.slice (some ⟨g,0,none⟩) n c) n (itCells its)) (hn:its.length=n) :
  ∀ i,i<its.length→w.cell? ⟨g,i * 2,none⟩=some (.float .f64 (its[i]?.getD default).k.bits)∧w.cell? ⟨g,i * 2+1,none⟩=some (.int .i64 (its[i]?.getD default).n):=by
 intro i hi
 have e:=it_some hi
 refine ⟨?_,?_⟩
 ·have:=h.cellAt (i * 2) (by omega)
  rw [this]
  exact (flat_get ItV.enc_len e (j:=0) (by omega)).trans rfl
 ·have:=h.cellAt (i * 2+1) (by omega)
  rw [this]
  exact (flat_get ItV.enc_len e (j:=1) (by omega)).trans rfl

theorem vSearch_nil (kb:Nat) (w:World) :
  Calls Tryz.prog 233 #[.slice none 0 0,.float .f64 kb,.func (.func 234) #[] #[]] w (Ret (.tuple #[.int .i64 0,.bool false]) w):=by
 go_enter Tryz.func233,Tryz.ntmps233
 go_wp2
 go_loopw [9,10] (fun i j wr=>i=.int .i64 0∧j=.int .i64 0∧Below w.heap.size w wr) (fun _ _ _=>0)
 case atStart=>exact ⟨rfl,rfl,Below.refl _ _⟩
 case round =>
  obtain ⟨rfl,rfl,hbw⟩:=hrel
  go_wp2
  go_ret2
  exact ⟨rfl,by exact below_auto⟩

theorem vSearch_any {w:World} {B:Nat} {v:Value} {its:List ItV} (kb:Nat) (hk:kb<2 ^ 64) (hown:w.ownsRow B 146 2 v its.length (itCells its)) (hl:its.length≤64) (hr:rises its) :
  Calls Tryz.prog 233 #[v,.float .f64 kb,.func (.func 234) #[] #[]] w (Ret (.tuple #[.int .i64 (plcI its kb),.bool (plcB its kb)]) w):=by
 have hown':=hown
 rcases hown.2 with ⟨rfl,h0⟩|⟨g,cap,cur,rfl,hbg,hg,hnc,hcm,hcs,htake⟩
 ·have:its=[]:=by
   have:=itCells_len its
   rw [h0] at this;simp at this
   exact List.eq_nil_of_length_eq_zero (by omega)
  subst this
  exact vSearch_nil kb w
 ·exact vSearch_row g cap its.length kb its w hk rfl (by omega) (Array.getElem?_eq_some_iff.1 hg).1 (own_cells hown' rfl) (rises_mono hr kb)

theorem place_any {w:World} {B T:Nat} {v:Value} {most:Int} {its:List ItV} (h:TabAt w B T v most its) (hr:rises its) (kb:Nat) (hk:kb<2 ^ 64) :
  Calls Tryz.prog 193 #[.pointer (some ⟨T,0,none⟩),.float .f64 kb] w (Ret (.tuple #[.int .i64 (plcI its kb),.bool (plcB its kb)]) w):=by
 have H:=vSearch_any kb hk h.own h.len hr
 have c1:=cell_row h.tab 1
 simp at c1
 generalize plcI its kb=p at *
 generalize plcB its kb=q at *
 clear h
 go_enter Tryz.func193,Tryz.ntmps193
 go_wp2_with (go_at_call 233;with_reducible refine mQ (H) ?_;intro w1 hb1 hc1 hf1 hz1;intros)
 go_ret2
 exact ⟨rfl,by exact below_auto⟩

end Go.Proofs.YtdeeoddacnealaaGreat