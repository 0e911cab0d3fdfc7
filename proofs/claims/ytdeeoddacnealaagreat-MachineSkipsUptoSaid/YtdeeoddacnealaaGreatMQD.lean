/- Several texts as one: QD QE QF QS. -/
import Derived.Test.YtdeeoddacnealaaGreatMQ
import Derived.Test.YtdeeoddacnealaaGreatMR
set_option linter.unusedVariables false
namespace Go.Proofs.YtdeeoddacnealaaGreat.Q
open Go.RowKit Fl

def AllRet (w:World) (its:List ItV) (e:Ending) (w':World):Prop :=
 ∃ v',e=.returned v'∧w'.ownsRow w.heap.size 152 5 v' its.length (itCells its)∧Below w.heap.size w w'

theorem vSlNil (w:World) (a:Option Addr) (n c:Nat):(binOp .eql 147 (.slice a n c) (.slice none 0 0)).run Tryz.prog w=.ok (.bool a.isNone) w:=Go.Lib.run_eql_slice_nil w _ _ a n c 0 0 Tryz.underlying147
set_option maxRecDepth 100000 in
theorem vClone_row (g n c:Nat) (its:List ItV) (cur:Array Value) (w:World) (hn:its.length=n) (hlen:n≤64) (hnc:n≤c) (hcm:c≤maxLen)
  (hg:w.heap[g]? = some (.cells cur 152 (0,0))) (hcs:cur.size=c * 5) (htake:cur.toList.take (n * 5)=itCells its) :
  Calls Tryz.prog 138 #[.slice (some ⟨g,0,none⟩) n c] w (AllRet w its):=by
 obtain ⟨i0,hi0,hz0,hzs,hzb⟩:=info_parts vItemInfo
 have hgl:=(Array.getElem?_eq_some_iff.1 hg).1
 have hrow0:w.ownsRow 0 152 5 (.slice (some ⟨g,0,none⟩) n c) n (itCells its):=⟨by rw [itCells_len,hn],.inr ⟨g,c,cur,rfl,Nat.zero_le _,hg,hnc,hcm,hcs,htake⟩⟩
 have hb1:Below w.heap.size w (w.alloc (.cells #[] 152)):=by exact below_auto
 have hown1:(w.alloc (.cells #[] 152)).ownsRow w.heap.size 152 5 (.slice (some ⟨w.heap.size,0,none⟩) 0 0) 0 [] :=
  ⟨rfl,.inr ⟨w.heap.size,0,#[],rfl,Nat.le_refl _,heap_alloc_new w _,Nat.le_refl _,by unfold maxLen;omega,rfl,rfl⟩⟩
 by_cases h0:n=0
 ·subst h0
  obtain rfl:its=[]:=List.eq_nil_of_length_eq_zero hn
  have fin:AllRet w [] (.returned (.slice (some ⟨w.heap.size,0,none⟩) 0 0)) (w.alloc (.cells #[] 152)):=⟨_,rfl,hown1,hb1⟩
  have hfin:=hid fin
  clear hrow0 hb1 hown1 htake hcs hg fin hz0 hzs hzb
  have hE:=vSlNil
  go_enter Tryz.func138,Tryz.ntmps138
  go_wp2
  go_ret
  exact hfin.out
 ·obtain ⟨v',w',hr,h2,h3⟩:=run_append_own2 (P:=Tryz.prog) (w.alloc (.cells #[] 152)) w.heap.size 147 152 i0 _ 5 32 Tryz.underlying147 hi0 hz0 hzs hzb rfl (by omega) _ 0 [] hown1 ⟨g,0,none⟩ n c (itCells its) (by rw [itCells_len,hn])
   (fun j u hj=>by
    have:=(hrow0.kept (grown_of_below hb1) (by simp [Value.ownBlock])).cells (g:=g) rfl j u hj
    exact this) (itCells_one its) (by omega) (by unfold maxLen;omega) (by omega) (by simp)
  have fin:AllRet w its (.returned v') w':=⟨v',rfl,by rw [hn];simpa using h2,⟨h3.1.os.trans hb1.os,h3.1.tape.trans hb1.tape,h3.1.output.trans hb1.output,Nat.le_trans hb1.size h3.1.size,fun k hk=>(h3.1.block k (by simp;omega) (by simp [Value.ownBlock];omega)).trans (hb1.block k hk)⟩⟩
  have hfin:=hid fin
  clear hrow0 hb1 hown1 htake hcs hg fin hz0 hzs hzb h2 h3
  have hE:=vSlNil
  go_enter Tryz.func138,Tryz.ntmps138
  go_wp2_with (at_builtin;refine Lib.wpList_append_run _ rfl _ _ _ _ rfl _ _ rfl rfl _ _ (hr _) ?_)
  go_ret
  exact hfin.out

theorem vClone_any {w:World} {B:Nat} {v:Value} {its:List ItV} (hown:w.ownsRow B 152 5 v its.length (itCells its)) (hl:its.length≤64) :
  Calls Tryz.prog 138 #[v] w (AllRet w its):=by
 rcases hown.2 with ⟨rfl,h0⟩|⟨g,cap,cur,rfl,hbg,hg,hnc,hcm,hcs,htake⟩
 ·have:=itCells_len its
  rw [h0] at this;simp at this
  obtain rfl:its=[]:=List.eq_nil_of_length_eq_zero (by omega)
  have fin:∀ W,Below w.heap.size w W→AllRet w [] (.returned (.slice none 0 0)) W:=fun W hb=>⟨_,rfl,World.ownsRow_nil _ _ _ _,hb⟩
  have hfin:=hid fin
  clear fin
  have hE:=vSlNil
  go_enter Tryz.func138,Tryz.ntmps138
  go_wp2
  go_ret
  exact hfin.out _ (by exact below_auto)
 ·exact vClone_row g its.length cap its cur w rfl hl hnc hcm hg hcs htake

theorem tabAll_any {w:World} {B T:Nat} {v:Value} {most:Int} {its:List ItV} (h:TabAt w B T v most its) :
  Calls Tryz.prog 63 #[.pointer (some ⟨T,0,none⟩)] w (AllRet w its):=by
 have H:=vClone_any h.own h.len
 have c1:=cell_row h.tab 1
 simp at c1
 have fin:∀ v' w1 W,w1.ownsRow w.heap.size 152 5 v' its.length (itCells its)→Below w.heap.size w w1→Below w1.heap.size w1 W→AllRet w its (.returned v') W:=fun v' w1 W h1 h2 h3 =>
  ⟨v',rfl,h1.kept (grown_of_below h3) (by cases v'.ownBlock <;> simp),h2.trans (h3.mono h2.size)⟩
 have hfin:=hid fin
 clear fin h
 go_enter Tryz.func63,Tryz.ntmps63
 go_wp2_with fail
 with_reducible refine H.mono ?_
 rintro e w1 ⟨v',rfl,h1,h2⟩
 have g1:=hid h1
 clear h1 H
 go_wp2
 go_ret
 exact hfin.out v' w1 _ g1.out h2 (Below.refl _ _)

theorem plc_before {its:List ItV} {kb:Rg} {i:Nat} {x:ItV} (hi:i<plcI its kb) (hx:its[i]? = some x):codeR x.k.rg<codeR kb:=by
 have:=List.not_of_lt_findIdx hi
 rw [List.getElem?_eq_some_iff] at hx
 obtain ⟨h1,rfl⟩:=hx
 simpa using this
theorem plc_behind {its:List ItV} (hr:rises its) {kb:Rg} {i:Nat} {x:ItV} (hi:plcI its kb≤i) (hx:its[i]? = some x):codeR kb≤codeR x.k.rg:=by
 obtain ⟨h1,h2⟩:=List.getElem?_eq_some_iff.1 hx
 have hp:plcI its kb<its.length:=by omega
 have h3:¬codeR its[plcI its kb].k.rg<codeR kb:=by
  have e:=List.findIdx_getElem (w:=(show List.findIdx (fun x:ItV=>!decide (codeR x.k.rg<codeR kb)) its<its.length from hp))
  rw [Bool.not_eq_true',decide_eq_false_iff_not] at e
  exact e
 apply Int.not_lt.1
 intro h4
 exact h3 (rises_mono hr kb _ _ hi _ _ (List.getElem?_eq_getElem hp) hx h4)
theorem rises_set {its:List ItV} (h:rises its) (p:Nat) (n:Int) (hp:p<its.length):rises (its.set p ⟨(its[p]?.getD default).k,n⟩):=by
 unfold rises at *
 have e:∀ l:List ItV,l.Pairwise (fun x y=>codeR x.k.rg<codeR y.k.rg)↔(l.map fun x=>codeR x.k.rg).Pairwise (· < ·):=fun l=>by rw [List.pairwise_map]
 rw [e] at *
 have e2:(its.set p ⟨(its[p]?.getD default).k,n⟩).map (fun x=>codeR x.k.rg)=its.map fun x=>codeR x.k.rg:=by
  rw [List.map_set]
  apply List.ext_getElem?
  intro i
  rw [List.getElem?_set]
  split
  ·rename_i h1
   subst h1
   rw [List.length_map,if_pos hp,List.getElem?_map,List.getElem?_eq_getElem hp]
   rfl
  ·rfl
 rw [e2];exact h
theorem plc_miss {its:List ItV} {kb:Rg} {i:Nat} {x:ItV} (hr:rises its) (hq:plcB its kb=false) (hi:plcI its kb≤i) (hx:its[i]? = some x):codeR kb<codeR x.k.rg:=by
 have h1:=plc_behind hr hi hx
 rcases Int.lt_or_eq_of_le h1 with h|h
 ·exact h
 ·exfalso
  obtain ⟨h2,h3⟩:=List.getElem?_eq_some_iff.1 hx
  rcases Nat.lt_or_eq_of_le hi with h4|h4
  ·have hp:plcI its kb<its.length:=by omega
   have h5:=plc_behind hr (Nat.le_refl _) (List.getElem?_eq_getElem hp)
   have h6:=(List.pairwise_iff_getElem.1 hr) _ i hp h2 h4
   rw [h3] at h6
   omega
  ·unfold plcB at hq
   rw [h4,hx] at hq
   simp at hq;exact hq h.symm
theorem rises_ins {its:List ItV} (hr:rises its) {kb:Rg} (hk:okR kb) (hn:kb≠none) (n:Int) (hq:plcB its kb=false):rises (its.take (plcI its kb)++[⟨keyR kb,n⟩]++its.drop (plcI its kb)):=by
 have hcb:=congrArg codeR (keyR_rg hk hn)
 have hlo:∀ x∈its.take (plcI its kb),codeR x.k.rg<codeR kb:=fun x hx=>by
  obtain ⟨j,hj,rfl⟩:=List.getElem_of_mem hx
  rw [List.length_take] at hj
  have:=plc_before (its:=its) (kb:=kb) (i:=j) (by omega) (List.getElem?_eq_getElem (by omega))
  rw [List.getElem_take];exact this
 have hhi:∀ x∈its.drop (plcI its kb),codeR kb<codeR x.k.rg:=fun x hx=>by
  obtain ⟨j,hj,rfl⟩:=List.getElem_of_mem hx
  rw [List.length_drop] at hj
  have:=plc_miss (i:=plcI its kb+j) hr hq (by omega) (List.getElem?_eq_getElem (by omega))
  rw [List.getElem_drop];exact this
 unfold rises at *
 rw [List.append_assoc,List.pairwise_append]
 refine ⟨hr.sublist (List.take_sublist _ _),?_,?_⟩
 ·rw [List.singleton_append,List.pairwise_cons]
  exact ⟨fun y hy=>by show codeR (keyR kb).rg<_;rw [hcb];exact hhi y hy,hr.sublist (List.drop_sublist _ _)⟩
 ·intro x hx y hy
  rw [List.singleton_append,List.mem_cons] at hy
  rcases hy with rfl|hy
  ·show _<codeR (keyR kb).rg
   rw [hcb];exact hlo x hx
  ·exact Int.lt_trans (hlo x hx) (hhi y hy)
theorem putI_rises {its:List ItV} (hr:rises its) (most:Int) (lo hi:Nat) (a b:Bool) (n:Int):rises (putI its most (canonS lo hi a b) n).2:=by
 have hk:=okR_canon lo hi a b
 generalize canonS lo hi a b=kb at *
 unfold putI
 split
 ·exact hr
 ·rename_i h1
  split
  ·exact hr
  ·split
   ·rename_i h2;exact rises_set hr _ _ (plcB_lt h2)
   ·rename_i h2
    split
    ·exact hr
    ·exact rises_ins hr hk h1 n (by simpa using h2)
theorem putI_le {its:List ItV} {most:Int} (h:(its.length:Int)≤most) (kb:Rg) (n:Int):((putI its most kb n).2.length:Int)≤most:=by
 unfold putI
 split
 ·exact h
 ·split
  ·exact h
  ·split
   ·simpa using h
   ·split
    ·exact h
    ·have:=plcI_le its kb
     simp;omega

end Go.Proofs.YtdeeoddacnealaaGreat.Q