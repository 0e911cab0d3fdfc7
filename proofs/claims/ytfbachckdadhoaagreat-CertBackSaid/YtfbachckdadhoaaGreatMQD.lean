/- Several texts as one: QD QE QF QS. -/
import Derived.Test.YtfbachckdadhoaaGreatMQ
import Derived.Test.YtfbachckdadhoaaGreatMR
namespace Go.Proofs.YtfbachckdadhoaaGreat.Q
set_option linter.unusedVariables false
open Go.RowKit Fl

def kept (m:Int) (its:List ItV):List ItV:=its.filter fun x=>!decide (x.n≤m)

theorem kept_snoc (m:Int) {its:List ItV} {t:Nat} {x:ItV} (hx:its[t]? = some x):kept m (its.take (t+1))=kept m (its.take t)++(if decide (x.n≤m)=true then [] else [x]):=by
 unfold kept
 rw [List.take_add_one,hx,List.filter_append]
 congr 1
 by_cases h:x.n≤m <;> simp [h]

structure DelMid (w wr:World) (g:Nat) (cur:Array Value) (m:Int) (its:List ItV) (i t:Nat):Prop where
 grown:w.grownBy wr (some g)
 at':i=(kept m (its.take t)).length
 lt:i<t
 row:∃ cur':Array Value,wr.heap[g]? = some (.cells cur' 129 (0,0))∧cur'.size=cur.size∧cur'.toList.take (i * 5)=itCells (kept m (its.take t))∧cur'.toList.drop (t * 5)=cur.toList.drop (t * 5)

theorem grown_trans {w w1 w2:World} {r:Option Nat} (h1:w.grownBy w1 r) (h2:w1.grownBy w2 r):w.grownBy w2 r :=
 ⟨h2.os.trans h1.os,h2.tape.trans h1.tape,h2.output.trans h1.output,Nat.le_trans h1.size h2.size,fun k hk hne=>(h2.block k (Nat.lt_of_lt_of_le hk h1.size) hne).trans (h1.block k hk hne)⟩
theorem grown_row {w w1:World} {r:Option Nat} (h:w.grownBy w1 none):w.grownBy w1 r:=⟨h.os,h.tape,h.output,h.size,fun k hk _=>h.block k hk (by simp)⟩

theorem DelMid.skip {w wr W:World} {g:Nat} {cur:Array Value} {m:Int} {its:List ItV} {i t:Nat} {x:ItV} (h:DelMid w wr g cur m its i t) (hx:its[t]? = some x) (hp:decide (x.n≤m)=true) (hb:Below wr.heap.size wr W):DelMid w W g cur m its i (t+1):=by
 obtain ⟨cur',q1,q2,q3,q4⟩:=h.row
 have e:kept m (its.take (t+1))=kept m (its.take t):=by rw [kept_snoc m hx,if_pos hp,List.append_nil]
 refine ⟨grown_trans h.grown (grown_row (grown_of_below hb)),by rw [e];exact h.at',by have:=h.lt;omega,cur',(hb.block g (Array.getElem?_eq_some_iff.1 q1).1).trans q1,q2,by rw [e];exact q3,?_⟩
 have:=congrArg (List.drop 5) q4
 rw [List.drop_drop,List.drop_drop] at this
 rw [show (t+1) * 5=t * 5+5 by omega]
 exact this

theorem take_set_snoc {α:Type} {l:List α} {p:Nat} (v:α) (h:p<l.length):(l.set p v).take (p+1)=l.take p++[v]:=by
 rw [List.take_add_one,List.take_set_of_le (Nat.le_refl _),List.getElem?_set_self h];rfl
def set5 (cur:Array Value) (p:Nat) (v0 v1 v2 v3 v4:Value):Array Value:=((((cur.setIfInBounds p v0).setIfInBounds (p+1) v1).setIfInBounds (p+2) v2).setIfInBounds (p+3) v3).setIfInBounds (p+4) v4
theorem set5_take {cur:Array Value} {p:Nat} (v0 v1 v2 v3 v4:Value) (h:p+5≤cur.size):(set5 cur p v0 v1 v2 v3 v4).toList.take (p+5)=cur.toList.take p++[v0,v1,v2,v3,v4]:=by
 unfold set5
 simp only [Array.toList_setIfInBounds]
 rw [show p+5=p+4+1 by omega,take_set_snoc _ (by simp;omega),show p+4=p+3+1 by omega,take_set_snoc _ (by simp;omega),show p+3=p+2+1 by omega,take_set_snoc _ (by simp;omega),show p+2=p+1+1 by omega,take_set_snoc _ (by simp;omega),take_set_snoc _ (by simp;omega)]
 simp
theorem set5_drop {cur:Array Value} {p q:Nat} (v0 v1 v2 v3 v4:Value) (h:p+5≤q):(set5 cur p v0 v1 v2 v3 v4).toList.drop q=cur.toList.drop q:=by
 unfold set5
 simp only [Array.toList_setIfInBounds]
 rw [List.drop_set_of_lt (by omega),List.drop_set_of_lt (by omega),List.drop_set_of_lt (by omega),List.drop_set_of_lt (by omega),List.drop_set_of_lt (by omega)]
theorem set5_row {W:World} {g p:Nat} {cur:Array Value} {T:TypeId} (v0 v1 v2 v3 v4:Value) (h:W.heap[g]? = some (.cells cur T (0,0))) :
  W.grownBy (((((W.setCell ⟨g,p,none⟩ v0).setCell ⟨g,p+1,none⟩ v1).setCell ⟨g,p+2,none⟩ v2).setCell ⟨g,p+3,none⟩ v3).setCell ⟨g,p+4,none⟩ v4) (some g) ∧
  (((((W.setCell ⟨g,p,none⟩ v0).setCell ⟨g,p+1,none⟩ v1).setCell ⟨g,p+2,none⟩ v2).setCell ⟨g,p+3,none⟩ v3).setCell ⟨g,p+4,none⟩ v4).heap[g]? = some (.cells (set5 cur p v0 v1 v2 v3 v4) T (0,0)):=by
 have one:∀ (X:World) (c:Array Value) (q:Nat) (v:Value),X.heap[g]? = some (.cells c T (0,0))→X.grownBy (X.setCell ⟨g,q,none⟩ v) (some g)∧(X.setCell ⟨g,q,none⟩ v).heap[g]? = some (.cells (c.setIfInBounds q v) T (0,0)):=fun X c q v hX=>by
  rw [setCell_eq_setRow X g q c _ _ v hX]
  exact ⟨grownBy_setRow _ _ _,setRow_heap _ _ _ _ _ _ hX⟩
 obtain ⟨a0,b0⟩:=one _ _ p v0 h
 obtain ⟨a1,b1⟩:=one _ _ (p+1) v1 b0
 obtain ⟨a2,b2⟩:=one _ _ (p+2) v2 b1
 obtain ⟨a3,b3⟩:=one _ _ (p+3) v3 b2
 obtain ⟨a4,b4⟩:=one _ _ (p+4) v4 b3
 exact ⟨grown_trans a0 (grown_trans a1 (grown_trans a2 (grown_trans a3 a4))),b4⟩

theorem DelMid.keep {w wr W:World} {g:Nat} {cur:Array Value} {m:Int} {its:List ItV} {i t:Nat} {x:ItV} (h:DelMid w wr g cur m its i t) (hx:its[t]? = some x) (hp:decide (x.n≤m)=false) (hb:Below wr.heap.size wr W) (hs:t * 5+5≤cur.size) :
  DelMid w (((((W.setCell ⟨g,i * 5,none⟩ (.float .f64 x.k.lo.bits)).setCell ⟨g,i * 5+1,none⟩ (.float .f64 x.k.hi.bits)).setCell ⟨g,i * 5+2,none⟩ (.bool false)).setCell ⟨g,i * 5+3,none⟩ (.bool false)).setCell ⟨g,i * 5+4,none⟩ (.int .i64 x.n)) g cur m its (i+1) (t+1):=by
 obtain ⟨cur',q1,q2,q3,q4⟩:=h.row
 have hlt:=h.lt
 have e:kept m (its.take (t+1))=kept m (its.take t)++[x]:=by rw [kept_snoc m hx,if_neg (by simp [hp])]
 have g1:W.heap[g]? = some (.cells cur' 129 (0,0)):=(hb.block g (Array.getElem?_eq_some_iff.1 q1).1).trans q1
 obtain ⟨a,b⟩:=set5_row (p:=i * 5) (.float .f64 x.k.lo.bits) (.float .f64 x.k.hi.bits) (.bool false) (.bool false) (.int .i64 x.n) g1
 refine ⟨grown_trans h.grown (grown_trans (grown_row (grown_of_below hb)) a),by rw [e];simp [←h.at'],by omega,_,b,by simpa [set5] using q2,?_,?_⟩
 ·rw [e,show (i+1) * 5=i * 5+5 by omega,set5_take _ _ _ _ _ (by omega),q3]
  unfold itCells
  rw [List.flatMap_append];rfl
 ·have:=congrArg (List.drop 5) q4
  rw [List.drop_drop,List.drop_drop] at this
  rw [set5_drop _ _ _ _ _ (by omega),show (t+1) * 5=t * 5+5 by omega]
  exact this

end Go.Proofs.YtfbachckdadhoaaGreat.Q
namespace Go.Proofs.YtfbachckdadhoaaGreat.Q
set_option linter.unusedVariables false
open Go.RowKit Fl

end Go.Proofs.YtfbachckdadhoaaGreat.Q
namespace Go.Proofs.YtfbachckdadhoaaGreat.Q
set_option linter.unusedVariables false
open Go.RowKit Fl

def AllRet (w:World) (its:List ItV) (e:Ending) (w':World):Prop :=
 ∃ v',e=.returned v'∧w'.ownsRow w.heap.size 129 5 v' its.length (itCells its)∧Below w.heap.size w w'

theorem vSlNil (w:World) (a:Option Addr) (n c:Nat):(binOp .eql 126 (.slice a n c) (.slice none 0 0)).run Tryz.prog w=.ok (.bool a.isNone) w:=Go.Lib.run_eql_slice_nil w _ _ a n c 0 0 Tryz.underlying126
set_option maxRecDepth 100000 in
theorem vClone_row (g n c:Nat) (its:List ItV) (cur:Array Value) (w:World) (hn:its.length=n) (hlen:n≤64) (hnc:n≤c) (hcm:c≤maxLen)
  (hg:w.heap[g]? = some (.cells cur 129 (0,0))) (hcs:cur.size=c * 5) (htake:cur.toList.take (n * 5)=itCells its) :
  Calls Tryz.prog 120 #[.slice (some ⟨g,0,none⟩) n c] w (AllRet w its):=by
 obtain ⟨i0,hi0,hz0,hzs,hzb⟩:=info_parts vItemInfo
 have hgl:=(Array.getElem?_eq_some_iff.1 hg).1
 have hrow0:w.ownsRow 0 129 5 (.slice (some ⟨g,0,none⟩) n c) n (itCells its):=⟨by rw [itCells_len,hn],.inr ⟨g,c,cur,rfl,Nat.zero_le _,hg,hnc,hcm,hcs,htake⟩⟩
 have hb1:Below w.heap.size w (w.alloc (.cells #[] 129)):=by exact below_auto
 have hown1:(w.alloc (.cells #[] 129)).ownsRow w.heap.size 129 5 (.slice (some ⟨w.heap.size,0,none⟩) 0 0) 0 [] :=
  ⟨rfl,.inr ⟨w.heap.size,0,#[],rfl,Nat.le_refl _,heap_alloc_new w _,Nat.le_refl _,by unfold maxLen;omega,rfl,rfl⟩⟩
 by_cases h0:n=0
 ·subst h0
  obtain rfl:its=[]:=List.eq_nil_of_length_eq_zero hn
  have fin:AllRet w [] (.returned (.slice (some ⟨w.heap.size,0,none⟩) 0 0)) (w.alloc (.cells #[] 129)):=⟨_,rfl,hown1,hb1⟩
  have hfin:=hid fin
  clear hrow0 hb1 hown1 htake hcs hg fin hz0 hzs hzb
  have hE:=vSlNil
  go_enter Tryz.func120,Tryz.ntmps120
  go_wp2
  go_ret
  exact hfin.out
 ·obtain ⟨v',w',hr,h2,h3⟩:=run_append_own2 (P:=Tryz.prog) (w.alloc (.cells #[] 129)) w.heap.size 126 129 i0 _ 5 32 Tryz.underlying126 hi0 hz0 hzs hzb rfl (by omega) _ 0 [] hown1 ⟨g,0,none⟩ n c (itCells its) (by rw [itCells_len,hn])
   (fun j u hj=>by
    have:=(hrow0.kept (grown_of_below hb1) (by simp [Value.ownBlock])).cells (g:=g) rfl j u hj
    exact this) (itCells_one its) (by omega) (by unfold maxLen;omega) (by omega) (by simp)
  have fin:AllRet w its (.returned v') w':=⟨v',rfl,by rw [hn];simpa using h2,⟨h3.1.os.trans hb1.os,h3.1.tape.trans hb1.tape,h3.1.output.trans hb1.output,Nat.le_trans hb1.size h3.1.size,fun k hk=>(h3.1.block k (by simp;omega) (by simp [Value.ownBlock];omega)).trans (hb1.block k hk)⟩⟩
  have hfin:=hid fin
  clear hrow0 hb1 hown1 htake hcs hg fin hz0 hzs hzb h2 h3
  have hE:=vSlNil
  go_enter Tryz.func120,Tryz.ntmps120
  go_wp2_with (at_builtin;refine Lib.wpList_append_run _ rfl _ _ _ _ rfl _ _ rfl rfl _ _ (hr _) ?_)
  go_ret
  exact hfin.out

theorem vClone_any {w:World} {B:Nat} {v:Value} {its:List ItV} (hown:w.ownsRow B 129 5 v its.length (itCells its)) (hl:its.length≤64) :
  Calls Tryz.prog 120 #[v] w (AllRet w its):=by
 rcases hown.2 with ⟨rfl,h0⟩|⟨g,cap,cur,rfl,hbg,hg,hnc,hcm,hcs,htake⟩
 ·have:=itCells_len its
  rw [h0] at this;simp at this
  obtain rfl:its=[]:=List.eq_nil_of_length_eq_zero (by omega)
  have fin:∀ W,Below w.heap.size w W→AllRet w [] (.returned (.slice none 0 0)) W:=fun W hb=>⟨_,rfl,World.ownsRow_nil _ _ _ _,hb⟩
  have hfin:=hid fin
  clear fin
  have hE:=vSlNil
  go_enter Tryz.func120,Tryz.ntmps120
  go_wp2
  go_ret
  exact hfin.out _ (by exact below_auto)
 ·exact vClone_row g its.length cap its cur w rfl hl hnc hcm hg hcs htake

theorem tabAll_any {w:World} {B T:Nat} {v:Value} {most:Int} {its:List ItV} (h:TabAt w B T v most its) :
  Calls Tryz.prog 61 #[.pointer (some ⟨T,0,none⟩)] w (AllRet w its):=by
 have H:=vClone_any h.own h.len
 have c1:=cell_row h.tab 1
 simp at c1
 have fin:∀ v' w1 W,w1.ownsRow w.heap.size 129 5 v' its.length (itCells its)→Below w.heap.size w w1→Below w1.heap.size w1 W→AllRet w its (.returned v') W:=fun v' w1 W h1 h2 h3 =>
  ⟨v',rfl,h1.kept (grown_of_below h3) (by cases v'.ownBlock <;> simp),h2.trans (h3.mono h2.size)⟩
 have hfin:=hid fin
 clear fin h
 go_enter Tryz.func61,Tryz.ntmps61
 go_wp2_with fail
 with_reducible refine H.mono ?_
 rintro e w1 ⟨v',rfl,h1,h2⟩
 have g1:=hid h1
 clear h1 H
 go_wp2
 go_ret
 exact hfin.out v' w1 _ g1.out h2 (Below.refl _ _)
end Go.Proofs.YtfbachckdadhoaaGreat.Q
namespace Go.Proofs.YtfbachckdadhoaaGreat.Q
set_option linter.unusedVariables false
open Go.RowKit Fl

theorem plc_before {its:List ItV} {kb:Rg} {i:Nat} {x:ItV} (hi:i<plcI its kb) (hx:its[i]? = some x):codeR x.k.rg<codeR kb:=by
 have:=List.not_of_lt_findIdx hi
 rw [List.getElem?_eq_some_iff] at hx
 obtain ⟨h1,rfl⟩:=hx
 simpa using this
theorem plc_behind {its:List ItV} (hr:rises its) {kb:Rg} {i:Nat} {x:ItV} (hi:plcI its kb≤i) (hx:its[i]? = some x):codeR kb≤codeR x.k.rg:=by
 obtain ⟨h1,h2⟩:=List.getElem?_eq_some_iff.1 hx
 have hp:plcI its kb<its.length:=by omega
 have h3:¬codeR its[plcI its kb].k.rg<codeR kb:=by
  have e:=List.findIdx_getElem (w:=(show List.findIdx (fun x:ItV=>!decide (codeR x.k.rg<codeR kb)) its<its.length from hp))
  rw [Bool.not_eq_true',decide_eq_false_iff_not] at e
  exact e
 apply Int.not_lt.1
 intro h4
 exact h3 (rises_mono hr kb _ _ hi _ _ (List.getElem?_eq_getElem hp) hx h4)
theorem rises_set {its:List ItV} (h:rises its) (p:Nat) (n:Int) (hp:p<its.length):rises (its.set p ⟨(its[p]?.getD default).k,n⟩):=by
 unfold rises at *
 have e:∀ l:List ItV,l.Pairwise (fun x y=>codeR x.k.rg<codeR y.k.rg)↔(l.map fun x=>codeR x.k.rg).Pairwise (· < ·):=fun l=>by rw [List.pairwise_map]
 rw [e] at *
 have e2:(its.set p ⟨(its[p]?.getD default).k,n⟩).map (fun x=>codeR x.k.rg)=its.map fun x=>codeR x.k.rg:=by
  rw [List.map_set]
  apply List.ext_getElem?
  intro i
  rw [List.getElem?_set]
  split
  ·rename_i h1
   subst h1
   rw [List.length_map,if_pos hp,List.getElem?_map,List.getElem?_eq_getElem hp]
   rfl
  ·rfl
 rw [e2];exact h
theorem plc_miss {its:List ItV} {kb:Rg} {i:Nat} {x:ItV} (hr:rises its) (hq:plcB its kb=false) (hi:plcI its kb≤i) (hx:its[i]? = some x):codeR kb<codeR x.k.rg:=by
 have h1:=plc_behind hr hi hx
 rcases Int.lt_or_eq_of_le h1 with h|h
 ·exact h
 ·exfalso
  obtain ⟨h2,h3⟩:=List.getElem?_eq_some_iff.1 hx
  rcases Nat.lt_or_eq_of_le hi with h4|h4
  ·have hp:plcI its kb<its.length:=by omega
   have h5:=plc_behind hr (Nat.le_refl _) (List.getElem?_eq_getElem hp)
   have h6:=(List.pairwise_iff_getElem.1 hr) _ i hp h2 h4
   rw [h3] at h6
   omega
  ·unfold plcB at hq
   rw [h4,hx] at hq
   simp at hq;exact hq h.symm
theorem rises_ins {its:List ItV} (hr:rises its) {kb:Rg} (hk:okR kb) (hn:kb≠none) (n:Int) (hq:plcB its kb=false):rises (its.take (plcI its kb)++[⟨keyR kb,n⟩]++its.drop (plcI its kb)):=by
 have hcb:=congrArg codeR (keyR_rg hk hn)
 have hlo:∀ x∈its.take (plcI its kb),codeR x.k.rg<codeR kb:=fun x hx=>by
  obtain ⟨j,hj,rfl⟩:=List.getElem_of_mem hx
  rw [List.length_take] at hj
  have:=plc_before (its:=its) (kb:=kb) (i:=j) (by omega) (List.getElem?_eq_getElem (by omega))
  rw [List.getElem_take];exact this
 have hhi:∀ x∈its.drop (plcI its kb),codeR kb<codeR x.k.rg:=fun x hx=>by
  obtain ⟨j,hj,rfl⟩:=List.getElem_of_mem hx
  rw [List.length_drop] at hj
  have:=plc_miss (i:=plcI its kb+j) hr hq (by omega) (List.getElem?_eq_getElem (by omega))
  rw [List.getElem_drop];exact this
 unfold rises at *
 rw [List.append_assoc,List.pairwise_append]
 refine ⟨hr.sublist (List.take_sublist _ _),?_,?_⟩
 ·rw [List.singleton_append,List.pairwise_cons]
  exact ⟨fun y hy=>by show codeR (keyR kb).rg<_;rw [hcb];exact hhi y hy,hr.sublist (List.drop_sublist _ _)⟩
 ·intro x hx y hy
  rw [List.singleton_append,List.mem_cons] at hy
  rcases hy with rfl|hy
  ·show _<codeR (keyR kb).rg
   rw [hcb];exact hlo x hx
  ·exact Int.lt_trans (hlo x hx) (hhi y hy)
theorem putI_rises {its:List ItV} (hr:rises its) (most:Int) (lo hi:Nat) (a b:Bool) (n:Int):rises (putI its most (canonS lo hi a b) n).2:=by
 have hk:=okR_canon lo hi a b
 generalize canonS lo hi a b=kb at *
 unfold putI
 split
 ·exact hr
 ·rename_i h1
  split
  ·exact hr
  ·split
   ·rename_i h2;exact rises_set hr _ _ (plcB_lt h2)
   ·rename_i h2
    split
    ·exact hr
    ·exact rises_ins hr hk h1 n (by simpa using h2)
theorem putI_le {its:List ItV} {most:Int} (h:(its.length:Int)≤most) (kb:Rg) (n:Int):((putI its most kb n).2.length:Int)≤most:=by
 unfold putI
 split
 ·exact h
 ·split
  ·exact h
  ·split
   ·simpa using h
   ·split
    ·exact h
    ·have:=plcI_le its kb
     simp;omega
structure Tab1 (w0 w:World) (T:Nat) (most:Int) (its:List ItV):Prop where
 tab:∃ v,TabAt w w0.heap.size T v most its
 b:Below w0.heap.size w0 w
 up:rises its
 le:(its.length:Int)≤most
 m64:most≤64

theorem Tab1.below {w0 w w':World} {T:Nat} {most:Int} {its:List ItV} (h:Tab1 w0 w T most its) (hb:Below w.heap.size w w'):Tab1 w0 w' T most its:=by
 obtain ⟨v,hv⟩:=h.tab
 exact ⟨⟨v,hv.below hb⟩,h.b.trans (hb.mono h.b.size),h.up,h.le,h.m64⟩
theorem Tab1.lt {w0 w:World} {T:Nat} {most:Int} {its:List ItV} (h:Tab1 w0 w T most its):T<w.heap.size:=by
 obtain ⟨v,hv⟩:=h.tab
 exact hv.lt
theorem Upd.b {w0 w w':World} {T:Nat} {v v':Value} (h:Upd w w' T v v') (hT:w0.heap.size≤T) (hv:∀ g,v.ownBlock=some g→w0.heap.size≤g) (hb:Below w0.heap.size w0 w):Below w0.heap.size w0 w' :=
 ⟨h.os.trans hb.os,h.tape.trans hb.tape,h.output.trans hb.output,Nat.le_trans hb.size h.size,fun k hk=>(h.block k (Nat.lt_of_lt_of_le hk hb.size) (by omega) (fun e=>by have:=hv k e.symm;omega)).trans (hb.block k hk)⟩
theorem mostI_le (m:Int):mostI m≤64:=by unfold mostI;omega
theorem mostI_ge (m:Int):0≤mostI m:=by unfold mostI;omega

end Go.Proofs.YtfbachckdadhoaaGreat.Q
