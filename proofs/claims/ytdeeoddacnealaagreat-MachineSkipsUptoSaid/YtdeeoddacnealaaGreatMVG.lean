/- Several texts as one: LVA VQ VP VG. -/
import Derived.Test.YtdeeoddacnealaaGreatMVU
set_option linter.unusedVariables false
namespace Go.Proofs.YtdeeoddacnealaaGreat
open Go.RowKit Fl

def ia:ItV:=⟨kof 4607182418800017408,5⟩

structure OpV where
 kind:Int
 key:Nat
 n:Int
instance:Inhabited OpV:=⟨⟨0,0,0⟩⟩

theorem plc_of_mem {its:List ItV} (hr:rises its) {i:Nat} {x:ItV} (hx:its[i]? = some x) {kb:Nat} (hk:codeOf kb=codeOf x.k.bits):plcI its kb=i∧plcB its kb=true:=by
 obtain ⟨h1,h2⟩:=List.getElem?_eq_some_iff.1 hx
 have hp:plcI its kb=i:=by
  unfold plcI
  rw [List.findIdx_eq h1]
  refine ⟨by rw [h2];simp [hk],fun j hj=>?_⟩
  have h3:=(List.pairwise_iff_getElem.1 hr) j i (by omega) h1 hj
  rw [h2] at h3
  have:=(kcode_lt its[j].k x.k).2 h3
  rw [hk,codeOf_key,codeOf_key]
  simpa using this
 refine ⟨hp,?_⟩
 unfold plcB
 rw [hp,hx]
 simp [hk]

def pos (its:List ItV):Prop:=∀ x∈its,1≤x.n
theorem pos_nil:pos []:=fun _ h=>absurd h (by simp)
theorem putI_pos {its:List ItV} (h:pos its) (most:Int) (kb:Nat) (n:Int):pos (putI its most kb n).2:=by
 unfold putI
 split
 ·exact h
 ·split
  ·exact h
  ·rename_i h1
   split
   ·intro x hx
    rcases List.mem_or_eq_of_mem_set hx with h2|rfl
    ·exact h x h2
    ·show 1≤max _ n;omega
   ·split
    ·exact h
    ·intro x hx
     simp only [List.mem_append,List.mem_singleton] at hx
     rcases hx with (h2|rfl)|h2
     ·exact h x (List.mem_of_mem_take h2)
     ·show 1≤n;omega
     ·exact h x (List.mem_of_mem_drop h2)

theorem code_key {kb:Nat} {k:Key} (h:codeOf k.bits=codeOf kb):isNaN kb=false∧k=kof kb:=by
 rw [codeOf_key] at h
 cases hn:isNaN kb
 ·refine ⟨rfl,?_⟩
  have:codeOf kb=kcode (kof kb):=by simp [codeOf,hn]
  rw [this,kcode_eq] at h
  exact Key.ext' h
 ·have:codeOf kb=0:=by simp [codeOf,hn]
  rw [this] at h
  have:=kcode_lo k
  omega
theorem key_code {kb:Nat} (hn:isNaN kb=false):codeOf (kof kb).bits=codeOf kb:=by
 rw [codeOf_key];simp [codeOf,hn]
theorem plc_false {its:List ItV} (hr:rises its) {kb:Nat} (hq:plcB its kb=false) {x:ItV} (hx:x∈its):codeOf x.k.bits≠codeOf kb:=by
 obtain ⟨i,hi,rfl⟩:=List.getElem_of_mem hx
 rcases Nat.lt_or_ge i (plcI its kb) with h|h
 ·exact Int.ne_of_lt (plc_before h (List.getElem?_eq_getElem hi))
 ·exact (Int.ne_of_lt (plc_miss hr hq h (List.getElem?_eq_getElem hi))).symm
theorem plc_true {its:List ItV} {kb:Nat} (hq:plcB its kb=true):∃ h:plcI its kb<its.length,codeOf (its[plcI its kb]'h).k.bits=codeOf kb:=by
 have hp:=plcB_lt hq
 refine ⟨hp,?_⟩
 unfold plcB at hq
 rw [List.getElem?_eq_getElem hp] at hq
 simpa using hq
theorem atI_char {its:List ItV} (kb:Nat):(∃ x∈its,codeOf x.k.bits=codeOf kb∧atI its kb=x.n)∨atI its kb=0:=by
 cases hq:plcB its kb
 ·exact .inr (by simp [atI,hq])
 ·obtain ⟨hp,h⟩:=plc_true hq
  exact .inl ⟨_,List.getElem_mem hp,h,by simp [atI,hq,List.getElem?_eq_getElem hp]⟩

theorem take_drop_mem {its:List ItV} (p:Nat) (x:ItV):x∈its↔x∈its.take p∨x∈its.drop p:=by
 rw [←List.mem_append,List.take_append_drop]

theorem mem_putI {its:List ItV} (hr:rises its) (hp:pos its) (most:Int) (kb:Nat) (n:Int) (h0:(putI its most kb n).1=0) :
  isNaN kb=false∧1≤n∧n≤1099511627776∧∀ x:ItV,x∈(putI its most kb n).2↔(x∈its∧x.k≠kof kb)∨(x.k=kof kb∧x.n=max (atI its kb) n):=by
 unfold putI at h0 ⊢
 by_cases h1:isNaN kb=true
 ·rw [if_pos h1] at h0;simp at h0
 ·have h1':isNaN kb=false:=by simpa using h1
  rw [if_neg h1] at h0 ⊢
  by_cases h2:n<1∨1099511627776<n
  ·rw [if_pos h2] at h0;simp at h0
  ·rw [if_neg h2] at h0 ⊢
   refine ⟨h1',by omega,by omega,fun x=>?_⟩
   by_cases h3:plcB its kb=true
   ·rw [if_pos h3]
    obtain ⟨hpl,hk⟩:=plc_true h3
    have hk':=(code_key hk).2
    have hat:atI its kb=its[plcI its kb].n:=by simp [atI,h3,List.getElem?_eq_getElem hpl]
    rw [hat]
    simp only [List.getElem?_eq_getElem hpl,Option.getD_some]
    generalize plcI its kb=p at *
    constructor
    ·intro hx
     obtain ⟨i,hi,rfl⟩:=List.getElem_of_mem hx
     rw [List.getElem_set]
     split
     ·exact .inr ⟨hk',rfl⟩
     ·rename_i hne
      have hi':i<its.length:=by simpa using hi
      refine .inl ⟨List.getElem_mem hi',fun e=>hne ?_⟩
      have e1:=(plc_of_mem hr (List.getElem?_eq_getElem hi') (kb:=its[i].k.bits) rfl).1
      have e2:=(plc_of_mem hr (List.getElem?_eq_getElem hpl) (kb:=its[i].k.bits) (by rw [e,hk'])).1
      omega
    ·rintro (⟨hx,hne⟩|⟨e1,e2⟩)
     ·obtain ⟨i,hi,rfl⟩:=List.getElem_of_mem hx
      have hip:p≠i:=fun e=>hne (by subst e;exact hk')
      have:(its.set p ⟨its[p].k,max its[p].n n⟩)[i]'(by simpa using hi)=its[i]:=by rw [List.getElem_set,if_neg hip]
      rw [←this];exact List.getElem_mem _
     ·have:x=⟨its[p].k,max its[p].n n⟩:=by
       cases x;simp only [ItV.mk.injEq];exact ⟨by rw [hk'];exact e1,e2⟩
      rw [this]
      exact List.mem_set hpl _
   ·have h3':plcB its kb=false:=by simpa using h3
    rw [if_neg h3] at h0 ⊢
    by_cases h4:(its.length:Int)=most
    ·rw [if_pos h4] at h0;simp at h0
    ·rw [if_neg h4]
     have hat:atI its kb=0:=by simp [atI,h3']
     rw [hat]
     simp only [List.mem_append,List.mem_singleton]
     have hno:∀ y∈its,y.k≠kof kb:=fun y hy e=>plc_false hr h3' hy (by rw [e];exact key_code h1')
     have htd:=take_drop_mem (its:=its) (plcI its kb) x
     constructor
     ·rintro ((h|rfl)|h)
      ·exact .inl ⟨htd.2 (.inl h),hno x (htd.2 (.inl h))⟩
      ·exact .inr ⟨rfl,by show n=max 0 n;omega⟩
      ·exact .inl ⟨htd.2 (.inr h),hno x (htd.2 (.inr h))⟩
     ·rintro (⟨h,_⟩|⟨e1,e2⟩)
      ·rcases htd.1 h with h'|h'
       ·exact .inl (.inl h')
       ·exact .inr h'
      ·refine .inl (.inr ?_)
       cases x;simp only [ItV.mk.injEq] at *;exact ⟨e1,by omega⟩
theorem putI_same {its:List ItV} {most:Int} {kb:Nat} {n:Int} (h0:(putI its most kb n).1≠0):(putI its most kb n).2=its:=by
 unfold putI at *
 split
 ·rfl
 ·rename_i h1
  rw [if_neg h1] at h0
  split
  ·rfl
  ·rename_i h2
   rw [if_neg h2] at h0
   split
   ·rename_i h3;rw [if_pos h3] at h0;exact absurd rfl h0
   ·rename_i h3
    rw [if_neg h3] at h0
    split
    ·rfl
    ·rename_i h4;rw [if_neg h4] at h0;exact absurd rfl h0

end Go.Proofs.YtdeeoddacnealaaGreat