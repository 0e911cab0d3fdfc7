/- Several texts as one: QD QE QF QS. -/
import Derived.Test.YtdeeoddacnealaaGreatMQ
import Derived.Test.YtdeeoddacnealaaGreatMR
set_option linter.unusedVariables false
namespace Go.Proofs.YtdeeoddacnealaaGreat.Q
open Go.RowKit Fl

theorem plc_before {its:List ItV} {kb:Rg} {i:Nat} {x:ItV} (hi:i<plcI its kb) (hx:its[i]? = some x):codeR x.k.rg<codeR kb:=by
 have:=List.not_of_lt_findIdx hi
 rw [List.getElem?_eq_some_iff] at hx
 obtain ⟨h1,rfl⟩:=hx
 simpa using this
theorem plc_behind {its:List ItV} (hr:rises its) {kb:Rg} {i:Nat} {x:ItV} (hi:plcI its kb≤i) (hx:its[i]? = some x):codeR kb≤codeR x.k.rg:=by
 obtain ⟨h1,h2⟩:=List.getElem?_eq_some_iff.1 hx
 have hp:plcI its kb<its.length:=by omega
 have h3:¬codeR its[plcI its kb].k.rg<codeR kb:=by
  have e:=List.findIdx_getElem (w:=(show List.findIdx (fun x:ItV=>!decide (codeR x.k.rg<codeR kb)) its<its.length from hp))
  rw [Bool.not_eq_true',decide_eq_false_iff_not] at e
  exact e
 apply Int.not_lt.1
 intro h4
 exact h3 (rises_mono hr kb _ _ hi _ _ (List.getElem?_eq_getElem hp) hx h4)
theorem rises_set {its:List ItV} (h:rises its) (p:Nat) (n:Int) (hp:p<its.length):rises (its.set p ⟨(its[p]?.getD default).k,n⟩):=by
 unfold rises at *
 have e:∀ l:List ItV,l.Pairwise (fun x y=>codeR x.k.rg<codeR y.k.rg)↔(l.map fun x=>codeR x.k.rg).Pairwise (· < ·):=fun l=>by rw [List.pairwise_map]
 rw [e] at *
 have e2:(its.set p ⟨(its[p]?.getD default).k,n⟩).map (fun x=>codeR x.k.rg)=its.map fun x=>codeR x.k.rg:=by
  rw [List.map_set]
  apply List.ext_getElem?
  intro i
  rw [List.getElem?_set]
  split
  ·rename_i h1
   subst h1
   rw [List.length_map,if_pos hp,List.getElem?_map,List.getElem?_eq_getElem hp]
   rfl
  ·rfl
 rw [e2];exact h
theorem plc_miss {its:List ItV} {kb:Rg} {i:Nat} {x:ItV} (hr:rises its) (hq:plcB its kb=false) (hi:plcI its kb≤i) (hx:its[i]? = some x):codeR kb<codeR x.k.rg:=by
 have h1:=plc_behind hr hi hx
 rcases Int.lt_or_eq_of_le h1 with h|h
 ·exact h
 ·exfalso
  obtain ⟨h2,h3⟩:=List.getElem?_eq_some_iff.1 hx
  rcases Nat.lt_or_eq_of_le hi with h4|h4
  ·have hp:plcI its kb<its.length:=by omega
   have h5:=plc_behind hr (Nat.le_refl _) (List.getElem?_eq_getElem hp)
   have h6:=(List.pairwise_iff_getElem.1 hr) _ i hp h2 h4
   rw [h3] at h6
   omega
  ·unfold plcB at hq
   rw [h4,hx] at hq
   simp at hq;exact hq h.symm
theorem rises_ins {its:List ItV} (hr:rises its) {kb:Rg} (hk:okR kb) (hn:kb≠none) (n:Int) (hq:plcB its kb=false):rises (its.take (plcI its kb)++[⟨keyR kb,n⟩]++its.drop (plcI its kb)):=by
 have hcb:=congrArg codeR (keyR_rg hk hn)
 have hlo:∀ x∈its.take (plcI its kb),codeR x.k.rg<codeR kb:=fun x hx=>by
  obtain ⟨j,hj,rfl⟩:=List.getElem_of_mem hx
  rw [List.length_take] at hj
  have:=plc_before (its:=its) (kb:=kb) (i:=j) (by omega) (List.getElem?_eq_getElem (by omega))
  rw [List.getElem_take];exact this
 have hhi:∀ x∈its.drop (plcI its kb),codeR kb<codeR x.k.rg:=fun x hx=>by
  obtain ⟨j,hj,rfl⟩:=List.getElem_of_mem hx
  rw [List.length_drop] at hj
  have:=plc_miss (i:=plcI its kb+j) hr hq (by omega) (List.getElem?_eq_getElem (by omega))
  rw [List.getElem_drop];exact this
 unfold rises at *
 rw [List.append_assoc,List.pairwise_append]
 refine ⟨hr.sublist (List.take_sublist _ _),?_,?_⟩
 ·rw [List.singleton_append,List.pairwise_cons]
  exact ⟨fun y hy=>by show codeR (keyR kb).rg<_;rw [hcb];exact hhi y hy,hr.sublist (List.drop_sublist _ _)⟩
 ·intro x hx y hy
  rw [List.singleton_append,List.mem_cons] at hy
  rcases hy with rfl|hy
  ·show _<codeR (keyR kb).rg
   rw [hcb];exact hlo x hx
  ·exact Int.lt_trans (hlo x hx) (hhi y hy)
theorem putI_rises {its:List ItV} (hr:rises its) (most:Int) (lo hi:Nat) (a b:Bool) (n:Int):rises (putI its most (canonS lo hi a b) n).2:=by
 have hk:=okR_canon lo hi a b
 generalize canonS lo hi a b=kb at *
 unfold putI
 split
 ·exact hr
 ·rename_i h1
  split
  ·exact hr
  ·split
   ·rename_i h2;exact rises_set hr _ _ (plcB_lt h2)
   ·rename_i h2
    split
    ·exact hr
    ·exact rises_ins hr hk h1 n (by simpa using h2)
theorem putI_le {its:List ItV} {most:Int} (h:(its.length:Int)≤most) (kb:Rg) (n:Int):((putI its most kb n).2.length:Int)≤most:=by
 unfold putI
 split
 ·exact h
 ·split
  ·exact h
  ·split
   ·simpa using h
   ·split
    ·exact h
    ·have:=plcI_le its kb
     simp;omega

end Go.Proofs.YtdeeoddacnealaaGreat.Q