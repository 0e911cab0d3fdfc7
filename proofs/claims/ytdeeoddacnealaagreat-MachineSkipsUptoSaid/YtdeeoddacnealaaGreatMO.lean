/- Several texts as one: Open OpenF OpenN OpenS OpenY. -/
import Derived.Test.YtdeeoddacnealaaGreatRows
import Derived.WalkKit
import Derived.ProofKit
import Derived.OpenShut
import Derived.ChangeOld
import Derived.Below
import Derived.Carry
import Derived.Lib.SmallJoins
import Derived.Laws.Cover2
import Derived.Deep.Slices
import Derived.Deep.Fields
import Derived.ChangeSame
import Derived.Test.YtdeeoddacnealaaGreatMR
import Derived.SizedLaws
set_option linter.unusedVariables false
namespace Go.Proofs.YtdeeoddacnealaaGreat
open Go.ChangeShapes Go.WideShapes Go.ChangeAt Go.RowKit

theorem own:ownKnob Tryz.prog.godebug=none:=by kernel_rfl
theorem laidOut:laidOutB Tryz.prog=true:=by kernel_rfl

set_option maxRecDepth 100000
section
variable {H : Type} {enc : TypeId × Value → H} {w : World} {base : Nat} {spare : Nat → Bool} {held : Bool}

theorem trod_floatOf {P:Program} {t:TypeId} {cs:List Value} {x:DataW H×List MemPlace} {fuel:Nat} (ht:P.underlying t=some (.float .f64)) (h:DataW.trod enc P w base spare held fuel t cs=some x):∃ n,cs=[.float .f64 n]∧n<2 ^ 64:=by
 cases fuel with
 | zero=>simp [DataW.trod] at h
 | succ n =>
  unfold DataW.trod at h
  rw [ht] at h
  split at h <;> simp_all
  rename_i hk
  subst hk
  have h2:=h.1.2
  simpa [Lit.wf] using h2

end
open Go.Joins Go.ChangeShapes Go.WideShapes Go.ChangeAt Go.RowKit Go.Deep

set_option maxRecDepth 100000
section
variable {H : Type} {enc : TypeId × Value → H} {P : Program} {w : World} {base : Nat} {spare : Nat → Bool} {held : Bool}

theorem cell_lt' {w:World} {a:Addr} {v:Value} (h:w.cell? a=some v):a.block<w.heap.size:=by
 unfold World.cell? at h
 rcases Nat.lt_or_ge a.block w.heap.size with h1|h1
 ·exact h1
 ·rw [Array.getElem?_eq_none h1] at h;cases h

theorem addN (b o n:Nat):(Addr.mk b o none).add n=⟨b,o+n,none⟩:=by
 unfold Addr.add;split
 ·rename_i h;subst h;rfl
 ·rfl

theorem open_slice_fields {t e:TypeId} {fs:Array Field} {fuel:Nat} {cs:List Value} {x:DataW H×List MemPlace} (ht:P.underlying t=some (.slice e)) (he:P.underlying e=some (.struct fs))
  (hone:oneCellFields P fs=true) (hC:P.cellsOf e=fs.size) (h:DataW.trod enc P w base spare held fuel t cs=some x) :
  (cs=[.slice none 0 0]∧x=(.nil,[])) ∨
  ∃ (a:Addr) (len cap:Nat),cs=[.slice (some a) len cap]∧len≤cap∧cap≤maxLen ∧
   ∀ i,i<len→∃ n:Nat,∀ (j:Nat) (f:Field),fs[j]? = some f→∃ (v:Value) (y:DataW H×List MemPlace),w.cell? (a.add (i * fs.size+j))=some v∧DataW.trod enc P w base spare held n f.type [v]=some y:=by
 rcases open_slice ht h with h0|⟨a,len,cap,m,n,D,Pl,hcs,hb,hl,hm,hmm,hx,hi⟩
 ·exact .inl h0
 ·refine .inr ⟨a,len,cap,hcs,hl,hm,fun i hil=>?_⟩
  obtain ⟨cs',hc,ht'⟩:=hi i (by rw [hmm];split <;> omega)
  rw [hC] at hc
  obtain ⟨ys,n',hn',hy,hlen,hyl,hf⟩:=DataW.trod_struct he ht'
  obtain ⟨_,hcl,hat⟩:=World.cells?_some hc
  refine ⟨n',fun j f hj=>?_⟩
  obtain ⟨ho,hk⟩:=hone_of hone j f hj
  have hjl:j<fs.size:=(Array.getElem?_eq_some_iff.1 hj).1
  have hcell:=hat j hjl
  have hv:cs'[j]? = some (cs'[j]'(by omega)):=List.getElem?_eq_getElem (by omega)
  have h1:=hf j f hj
  rw [ho,hk] at h1
  have hone':(cs'.drop j).take 1=[cs'[j]'(by omega)]:=by
   rw [List.drop_eq_getElem_cons (by omega)]
   rfl
  rw [hone'] at h1
  have hys:ys[j]? = some (ys[j]'(by omega)):=List.getElem?_eq_getElem (by omega)
  refine ⟨_,_,?_,h1.trans hys⟩
  rw [←Go.Deep.add_add,hcell,hv]

end

set_option maxRecDepth 100000
section
variable {H : Type} {enc : TypeId × Value → H} {P : Program} {w : World} {base : Nat} {spare : Nat → Bool} {held : Bool}
theorem trod_spans {v:Value} {y:DataW H×List MemPlace} {fuel:Nat} (h:DataW.trod enc Tryz.prog w base spare held fuel 39 [v]=some y):∃ a n c xs,v=.slice a n c∧xs.length=n∧SAt w a xs:=by
 rcases open_slice_fields Tryz.underlying39 Tryz.underlying150 (by kernel_rfl) (by kernel_rfl) h with ⟨h0,_⟩|⟨a,len,cap,hcs,hl,hm,hi⟩
 ·exact ⟨none,0,0,[],by simpa using h0,rfl,⟨.inl rfl,fun i hi=>absurd hi (Nat.not_lt_zero _),Nat.zero_le _⟩⟩
 ·have key:∀ i,i<len→∃ s:SpanV,(w.cell? (a.add (i * 4))=some (.float .f64 s.lo)∧w.cell? (a.add (i * 4+1))=some (.float .f64 s.hi)∧w.cell? (a.add (i * 4+2))=some (.bool s.a)∧w.cell? (a.add (i * 4+3))=some (.bool s.b))∧s.lo<2 ^ 64∧s.hi<2 ^ 64:=fun i hi'=>by
   obtain ⟨n,hf⟩:=hi i hi'
   obtain ⟨v0,y0,g0,t0⟩:=hf 0 _ rfl
   obtain ⟨v1,y1,g1,t1⟩:=hf 1 _ rfl
   obtain ⟨v2,y2,g2,t2⟩:=hf 2 _ rfl
   obtain ⟨v3,y3,g3,t3⟩:=hf 3 _ rfl
   obtain ⟨b0,e0,l0⟩:=trod_floatOf Tryz.underlying57 t0
   obtain ⟨b1,e1,l1⟩:=trod_floatOf Tryz.underlying57 t1
   obtain ⟨b2,e2,_⟩:=DataW.trod_bool Tryz.underlying4 t2
   obtain ⟨b3,e3,_⟩:=DataW.trod_bool Tryz.underlying4 t3
   simp only [List.cons.injEq,and_true] at e0 e1 e2 e3
   subst e0 e1 e2 e3
   exact ⟨⟨b0,b1,b2,b3⟩,⟨g0,g1,g2,g3⟩,l0,l1⟩
  obtain ⟨F,hF⟩:=choose_lt key
  have at':∀ i,i<len→((List.range len).map F)[i]?.getD default=F i:=fun i hi'=>by simp [List.getElem?_map,List.getElem?_range hi']
  refine ⟨some a,len,cap,(List.range len).map F,by simpa using hcs,by simp,?_,fun i hi'=>?_,by simp;omega⟩
  ·rcases Nat.eq_zero_or_pos len with hz|hp
   ·exact .inl (by simp [hz])
   ·obtain ⟨bl,o,sp⟩:=a
    have h0:=(hF 0 hp).1.1
    have hs:sp=none:=by simpa [Addr.add] using World.cell?_spot h0
    subst hs
    refine .inr ⟨bl,o,rfl,cell_lt' h0,fun i hi'=>?_⟩
    have hi2:i<len:=by simpa using hi'
    rw [at' i hi2]
    simpa [addN,Nat.add_assoc] using (hF i hi2).1
  ·have hi2:i<len:=by simpa using hi'
   rw [at' i hi2]
   exact (hF i hi2).2
end

set_option maxRecDepth 100000
section
variable {H : Type} {enc : TypeId × Value → H} {P : Program} {w : World} {base : Nat} {spare : Nat → Bool} {held : Bool}

theorem trod_floats {v:Value} {y:DataW H×List MemPlace} {fuel:Nat} (h:DataW.trod enc Tryz.prog w base spare held fuel 38 [v]=some y):∃ a n c xs,v=.slice a n c∧xs.length=n∧FAt w a xs:=by
 rcases open_slice1 Tryz.underlying38 (by kernel_rfl) h with ⟨h0,_⟩|⟨a,len,cap,m,n,V,D,Pl,hcs,hb,hl,hm,hmm,hx,hi⟩
 ·exact ⟨none,0,0,[],by simpa using h0,rfl,⟨.inl rfl,fun i hi=>absurd hi (Nat.not_lt_zero _),Nat.zero_le _⟩⟩
 ·have key:∀ i,i<len→∃ b:Nat,V i=.float .f64 b∧b<2 ^ 64:=fun i hi'=>by
   obtain ⟨b,h1,h2⟩:=trod_floatOf Tryz.underlying57 (hi i (by rw [hmm];split <;> omega)).2
   exact ⟨b,by simpa using h1,h2⟩
  obtain ⟨F,hF⟩:=choose_lt key
  have at':∀ i,i<len→((List.range len).map F)[i]?.getD 0=F i:=fun i hi'=>by simp [List.getElem?_map,List.getElem?_range hi']
  refine ⟨some a,len,cap,(List.range len).map F,by simpa using hcs,by simp,?_,fun i hi'=>?_,by simp;omega⟩
  ·rcases Nat.eq_zero_or_pos len with hz|hp
   ·exact .inl (by simp [hz])
   ·obtain ⟨bl,o,sp⟩:=a
    have h0:=(hi 0 (by rw [hmm];split <;> omega)).1
    have hs:sp=none:=by simpa [Addr.add] using World.cell?_spot h0
    subst hs
    refine .inr ⟨bl,o,rfl,cell_lt' h0,fun i hi'=>?_⟩
    have hi2:i<len:=by simpa using hi'
    have:=(hi i (by rw [hmm];split <;> omega)).1
    rw [at' i hi2,←(hF i hi2).1]
    rw [addN] at this;exact this
  ·have hi2:i<len:=by simpa using hi'
   rw [at' i hi2]
   exact (hF i hi2).2

end

set_option maxRecDepth 100000
section
variable {H : Type} {enc : TypeId × Value → H} {P : Program} {w : World} {base : Nat} {spare : Nat → Bool} {held : Bool}
end

end Go.Proofs.YtdeeoddacnealaaGreat