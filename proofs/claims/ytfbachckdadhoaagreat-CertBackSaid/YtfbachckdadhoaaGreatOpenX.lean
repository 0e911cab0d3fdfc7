/- How a row of submissions is opened; whole numbers with their bounds; the second form's bound. -/
import Derived.Test.YtfbachckdadhoaaGreatMO
import Derived.Test.YtfbachckdadhoaaGreatSQ
import Derived.SizedLaws
import Derived.JoinedCond
namespace Go.Proofs.YtfbachckdadhoaaGreat
set_option linter.unusedVariables false
open Go.Joins Go.ChangeShapes Go.WideShapes Go.ChangeAt Go.RowKit Go.Deep

def lenD {H:Type}:DataW H→Nat
 | .slice elems _=>elems.length
 | _=>0
set_option maxRecDepth 100000
section
variable {H : Type} {enc : TypeId × Value → H} {P : Program} {w : World} {base : Nat} {spare : Nat → Bool} {held : Bool}
theorem open_intCArg {r:Reach} {b0:Nat} {v:Value} {d:DataW H} {ps:List MemPlace} (hval:Value.okWide Tryz.prog w r b0 3 v) (hd:DataW.Trod enc Tryz.prog w base spare held 3 v d ps) :
  ∃ n,v=.int .i64 n∧(-9223372036854775808≤n∧n≤9223372036854775807):=by
 obtain ⟨b,h1,_,_,h2⟩:=open_int Tryz.underlying3 hval hd
 refine ⟨b,h1,?_⟩
 simp only [Lit.wf,Bool.and_eq_true] at h2
 exact ⟨of_decide_eq_true h2.1,of_decide_eq_true h2.2⟩
theorem trod_sub6 {cs:List Value} {y:DataW H×List MemPlace} {n:Nat} (h:DataW.trod enc Tryz.prog w base spare held n 32 cs=some y) :
  ∃ x:SubV,cs=[.int .i64 x.s0,.int .i64 x.s1,.int .i64 x.s2,.slice x.ra x.rs.length x.rc,.slice x.sa x.ss.length x.sc,.slice x.wa x.ws.length x.wc]∧x.At w:=by
 obtain ⟨xs,m,_,hx,hlen,hyl,hf⟩:=DataW.trod_struct Tryz.underlying32 h
 have h6:Tryz.prog.cellsOf 32 = 6:=by kernel_rfl
 rw [h6] at hlen
 match cs,hlen with
 | [c0,c1,c2,c3,c4,c5],_ =>
  match xs,hyl with
  | [y0,y1,y2,y3,y4,y5],_ =>
   have k1:Tryz.prog.cellsOf 2 = 1:=by kernel_rfl
   have k2:Tryz.prog.cellsOf 29 = 1:=by kernel_rfl
   have k3:Tryz.prog.cellsOf 30 = 1:=by kernel_rfl
   have t0:DataW.trod enc Tryz.prog w base spare held m 2 (([c0,c1,c2,c3,c4,c5].drop 0).take (Tryz.prog.cellsOf 2))=some y0:=hf 0 _ rfl
   have t1:DataW.trod enc Tryz.prog w base spare held m 2 (([c0,c1,c2,c3,c4,c5].drop 1).take (Tryz.prog.cellsOf 2))=some y1:=hf 1 _ rfl
   have t2:DataW.trod enc Tryz.prog w base spare held m 2 (([c0,c1,c2,c3,c4,c5].drop 2).take (Tryz.prog.cellsOf 2))=some y2:=hf 2 _ rfl
   have t3:DataW.trod enc Tryz.prog w base spare held m 29 (([c0,c1,c2,c3,c4,c5].drop 3).take (Tryz.prog.cellsOf 29))=some y3:=hf 3 _ rfl
   have t4:DataW.trod enc Tryz.prog w base spare held m 30 (([c0,c1,c2,c3,c4,c5].drop 4).take (Tryz.prog.cellsOf 30))=some y4:=hf 4 _ rfl
   have t5:DataW.trod enc Tryz.prog w base spare held m 29 (([c0,c1,c2,c3,c4,c5].drop 5).take (Tryz.prog.cellsOf 29))=some y5:=hf 5 _ rfl
   rw [k1] at t0 t1 t2
   rw [k2] at t3 t5
   rw [k3] at t4
   simp only [List.drop_succ_cons,List.drop_zero,List.take_succ_cons,List.take_zero] at t0 t1 t2 t3 t4 t5
   obtain ⟨s0,e0,_,_⟩:=DataW.trod_int Tryz.underlying2 t0
   obtain ⟨s1,e1,_,_⟩:=DataW.trod_int Tryz.underlying2 t1
   obtain ⟨s2,e2,_,_⟩:=DataW.trod_int Tryz.underlying2 t2
   simp only [List.cons.injEq,and_true] at e0 e1 e2
   subst e0 e1 e2
   obtain ⟨ra,n1,rc,rs,rfl,rfl,q1⟩:=trod_floats t3
   obtain ⟨sa,n2,sc,ss,rfl,rfl,q2⟩:=trod_spans t4
   obtain ⟨wa,n3,wc,ws,rfl,rfl,q3⟩:=trod_floats t5
   exact ⟨⟨s0,s1,s2,ra,rc,rs,sa,sc,ss,wa,wc,ws⟩,rfl,⟨q1,q2,q3⟩⟩
theorem trod_subs {v:Value} {y:DataW H×List MemPlace} {fuel:Nat} (hf:DataW.trod enc Tryz.prog w base spare held fuel 22 [v]=some y) :
  ∃ a c xs,v=.slice a xs.length c∧C.SqAt w a xs∧xs.length≤c∧xs.length=lenD y.1:=by
 rcases open_slice Tryz.underlying22 hf with ⟨h0,h1⟩|⟨a,len,cap,m,n',D,Pl,hcs,hb,hl,hm,hmm,hx,hi⟩
 ·have h0':[v]=[Value.slice none 0 0]:=h0
  exact ⟨none,0,[],(List.cons.inj h0').1,⟨.inl rfl,fun i hi=>absurd hi (Nat.not_lt_zero _)⟩,Nat.le_refl _,by rw [h1];rfl⟩
 ·have h6:Tryz.prog.cellsOf 32 = 6:=by kernel_rfl
  have key:∀ i,i<len→∃ x:SubV,(∀ t v,(C.sEnc x)[t]? = some v→w.cell? (a.add (i * 6+t))=some v)∧x.At w:=fun i hi'=>by
   obtain ⟨cs',hc,ht'⟩:=hi i (by rw [hmm];split <;> omega)
   rw [h6] at hc
   obtain ⟨x,rfl,h1⟩:=trod_sub6 ht'
   obtain ⟨_,hcl,hat⟩:=World.cells?_some hc
   refine ⟨x,fun t v hv=>?_,h1⟩
   have ht:t<6:=(List.getElem?_eq_some_iff.1 hv).1
   rw [←Go.Deep.add_add,hat t ht]
   exact hv
  obtain ⟨F,hF⟩:=choose_lt key
  have at':∀ i,i<len→((List.range len).map F)[i]?.getD C.noSub=F i:=fun i hi'=>by simp [List.getElem?_map,List.getElem?_range hi']
  have hcs':[v]=[Value.slice (some a) len cap]:=hcs
  simp only [List.cons.injEq,and_true] at hcs'
  subst hcs'
  refine ⟨some a,cap,(List.range len).map F,by simp,⟨?_,fun i hi'=>?_⟩,by simpa using hl,by rw [hx];simp [lenD]⟩
  ·rcases Nat.eq_zero_or_pos len with hz0|hp
   ·exact .inl (by simp [hz0])
   ·obtain ⟨bl,o,sp⟩:=a
    have h0:=(hF 0 hp).1 0 _ rfl
    have hs:sp=none:=by simpa [Addr.add] using World.cell?_spot h0
    subst hs
    refine .inr ⟨bl,o,rfl,cell_lt' h0,fun i hi' t v hv=>?_⟩
    have hi2:i<len:=by simpa using hi'
    rw [at' i hi2] at hv
    have:=(hF i hi2).1 t v hv
    rw [addN,←Nat.add_assoc] at this
    exact this
  ·have hi2:i<len:=by simpa using hi'
   rw [at' i hi2]
   exact (hF i hi2).2
theorem subBytes:Tryz.prog.bytesOf 32 = 96:=by kernel_rfl
theorem open_subsZArg {r:Reach} {b0:Nat} {v:Value} {d:DataW H} {ps:List MemPlace} (hval:Value.okWide Tryz.prog w r b0 22 v) (hd:DataW.Trod enc Tryz.prog w base spare held 22 v d ps)
  (hz:∀ n∈d.weights Tryz.prog 22,n≤reachBytes) :
  ∃ a c xs,v=.slice a xs.length c∧C.SqAt w a xs∧xs.length≤4398046511104∧xs.length≤c:=by
 obtain ⟨m,hm⟩:=hd
 obtain ⟨a0,n0,c0,rfl⟩:=okWide_slice Tryz.underlying22 hval
 have hlen:=len_of_weights Tryz.underlying22 hm hz
 rw [subBytes] at hlen
 obtain ⟨a,c,xs,h1,h2,h3,_⟩:=trod_subs hm
 have e:n0=xs.length:=by injection h1
 simp only [reachBytes] at hlen
 exact ⟨a,c,xs,h1,h2,by omega,h3⟩
end
end Go.Proofs.YtfbachckdadhoaaGreat
