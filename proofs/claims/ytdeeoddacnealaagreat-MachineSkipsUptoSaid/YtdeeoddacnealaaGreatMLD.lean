/- Several texts as one: LDB LDA LDC LDE LDF LDD LDG LDH LDI LDJ. -/
import Derived.Test.YtdeeoddacnealaaGreatMPR
import Derived.Test.YtdeeoddacnealaaGreatMBY
import Derived.Test.YtdeeoddacnealaaGreatCO
import Derived.Test.YtdeeoddacnealaaGreatMPD
import Derived.Test.YtdeeoddacnealaaGreatMCR
import Derived.Test.YtdeeoddacnealaaGreatCV
set_option linter.unusedVariables false
set_option linter.unusedSimpArgs false
namespace Go.Proofs.YtdeeoddacnealaaGreat.P
open Go.RowKit Fl

def getFlag:List Nat→Option (Bool×List Nat)
 | []=>none
 | c :: r=>if 1<c then none else some (decide (c=1),r)
def getBytes (most:Nat) (bs:List Nat):Option (List Nat×List Nat):=match getCount most bs with
 | none=>none
 | some (n,r)=>if n≤r.length then some (r.take n,r.drop n) else none
end Go.Proofs.YtdeeoddacnealaaGreat.P
namespace Go.Proofs.YtdeeoddacnealaaGreat.C
open Go.RowKit Fl
open Go.Proofs.YtdeeoddacnealaaGreat.P (numB keyB codeN encO NumD KeyD getNum getKey getCount getFlag getBytes dec ofD toD)

open Go.Proofs.YtdeeoddacnealaaGreat.P (RAt ReadRet wrongP getNum)

theorem gb (R:Nat) {w w':World} (h:Below w.heap.size w w'):w.grownBy w' (some R):=⟨h.os,h.tape,h.output,h.size,fun k hk _=>h.block k hk⟩
section
variable {B R T : Nat} {c c' : CL} {ow ow' : Nat → Nat} {bs bs' : List Nat} {w w' : World}
end
open Go.Proofs.YtdeeoddacnealaaGreat.P (RAt ReadRet wrongP getNum getKey getCount)

structure SB (X Z R T la lb:Nat) (ow:Nat→Nat) (w:World):Prop where
 x:w.heap[X]? = some (.cells #[.pointer (some ⟨R,0,none⟩),.pointer (some ⟨T,0,none⟩)] 176 (0,0))
 z:w.heap[Z]? = some (.cells #[.float .f64 la,.float .f64 lb,.bool false,.bool false] 150 (0,0))
 x0:ow X=0
 z0:ow Z=0
open Go.Proofs.YtdeeoddacnealaaGreat.P (RAt ReadRet wrongP getFlag getBytes dec ofD SameD Above BelowB)

open Go.Proofs.YtdeeoddacnealaaGreat.P (RAt ReadRet wrongP getNum getKey getCount BelowB set1R box1 read1_caught read1_idle)

open Go.Proofs.YtdeeoddacnealaaGreat.P (numB keyB codeN encO NumD KeyD getNum getKey getCount dec ofD toD)

structure Fold (c:CL) (F:List RecV):Prop where
 tabs:Tabs F c.i1 c.i2 c.i3 c.i4
 old:∀ r∈F,c.horizon<r.num∧r.num≤c.count-c.recs.length
 ne:F≠[]→c.recs≠[]
theorem Fold.new (kp m:Int) (t1 t2 t3 t4:Nat):Fold (CL.n (newC kp m t1 t2 t3 t4)) []:=⟨Tabs.nil _,fun _ h=>(by cases h),fun h=>absurd rfl h⟩
theorem Fold.commit {c:CL} {ds:List RecV} {m:Nat} (h:Inv c ds m) {F:List RecV} (hF:Fold c F) (y:SubV) (out:Bool):∃ F',Fold (c.commit y out) F':=by
 have hcnt:=h.count
 have hl:(c.recs.length:Int)=c.count-m:=by rw [h.recs,List.length_drop,hcnt];have:=h.le;omega
 have hk1:=h.keep
 unfold CL.commit
 simp only
 by_cases hk:c.keep<((c.recs++[(⟨c.count+1,y,out⟩:RecV)]).length:Int)
 ·rw [if_pos hk]
  have hk':c.keep<(c.recs.length:Int)+1:=by rw [List.length_append,List.length_singleton] at hk;omega
  have hnm:((c.recs++[(⟨c.count+1,y,out⟩:RecV)]).headD ⟨0,y,out⟩).num=(m:Int)+1:=by
   cases hr:c.recs with
   | nil=>rw [hr] at hk';simp at hk';omega
   | cons r0 rs =>
    have h0:m<ds.length:=by rw [hr] at hl;rw [hcnt] at hl;simp at hl;omega
    have h2:=h.recs
    rw [hr,List.drop_eq_getElem_cons h0] at h2
    have h3:r0=ds[m]:=by injection h2
    show r0.num=_
    rw [h3];exact h.nums m h0
  have hne:(c.recs++[(⟨c.count+1,y,out⟩:RecV)]).drop 1≠[]:=by
   intro e
   have:=congrArg List.length e
   rw [List.length_drop,List.length_append,List.length_singleton] at this
   simp at this;rw [this] at hk';simp at hk';omega
  have hdl:(((c.recs++[(⟨c.count+1,y,out⟩:RecV)]).drop 1).length:Int)=c.recs.length:=by
   rw [List.length_drop,List.length_append,List.length_singleton];omega
  generalize (c.recs++[(⟨c.count+1,y,out⟩:RecV)]).headD ⟨0,y,out⟩=hd at *
  have hsub:∀ r∈F,r∈F++[hd]:=fun r hr=>List.mem_append_left _ hr
  have ht:Tabs (F++[hd]) c.i1 c.i2 c.i3 c.i4:=⟨⟨hF.tabs.h1.rs,hF.tabs.h1.ps,hF.tabs.h1.fr.more hsub⟩,⟨hF.tabs.h2.rs,hF.tabs.h2.ps,hF.tabs.h2.fr.more hsub⟩,⟨hF.tabs.h3.rs,hF.tabs.h3.ps,hF.tabs.h3.fr.more hsub⟩,⟨hF.tabs.h4.rs,hF.tabs.h4.ps,hF.tabs.h4.fr.more hsub⟩⟩
  have hS:=sumS_ok (c:={ c with count:=c.count+1,recs:=c.recs++[(⟨c.count+1,y,out⟩:RecV)] }) (r:=hd) (List.mem_append_right _ (List.mem_singleton.2 rfl)) ht
  have h1:=h.hm
  unfold CL.sum
  simp only
  generalize sumS { c with count:=c.count+1,recs:=c.recs++[(⟨c.count+1,y,out⟩:RecV)] } hd=S at *
  by_cases he:S.e=0
  ·rw [if_pos he]
   refine ⟨F++[hd],hS,fun r hr=>?_,fun _=>hne⟩
   simp only
   rw [hdl]
   rcases List.mem_append.1 hr with hr|hr
   ·have:=hF.old r hr;omega
   ·rw [List.mem_singleton.1 hr];omega
  ·rw [if_neg he]
   exact ⟨[],Tabs.nil _,fun _ h=>(by cases h),fun h=>absurd rfl h⟩
 ·rw [if_neg hk]
  refine ⟨F,hF.tabs,fun r hr=>?_,fun _=>by simp⟩
  simp only
  rw [List.length_append,List.length_singleton]
  have:=hF.old r hr;omega

end Go.Proofs.YtdeeoddacnealaaGreat.C