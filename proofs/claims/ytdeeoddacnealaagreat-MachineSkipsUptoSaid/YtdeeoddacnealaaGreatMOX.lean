/- Several texts as one: OpenX OpenB OpenM OpenK. -/
import Derived.Test.YtdeeoddacnealaaGreatMO
import Derived.Test.YtdeeoddacnealaaGreatMCW
import Derived.SizedLaws
import Derived.JoinedCond
import Derived.Test.YtdeeoddacnealaaGreatMPA
import Derived.Test.YtdeeoddacnealaaGreatMZD
import Derived.Test.YtdeeoddacnealaaGreatMZK
set_option linter.unusedVariables false
namespace Go.Proofs.YtdeeoddacnealaaGreat
open Go.Joins Go.ChangeShapes Go.WideShapes Go.ChangeAt Go.RowKit Go.Deep

theorem bulk_one {H:Type} (d:DataW H):1≤Rows.uptoBulk d:=by
 cases d with
 | lit l=>cases l <;> simp [Rows.uptoBulk]
 | _=>simp [Rows.uptoBulk]
theorem bulk_part {H:Type} {d:DataW H} {l:List (DataW H)} (h:d∈l):Rows.uptoBulk d≤Rows.uptoBulkAll l:=by
 induction l with
 | nil=>cases h
 | cons x r ih =>
  simp only [Rows.uptoBulkAll]
  cases List.mem_cons.1 h with
  | inl e=>subst e;omega
  | inr e=>have:=ih e;omega
theorem bulk_len {H:Type} (l:List (DataW H)):l.length≤Rows.uptoBulkAll l:=by
 induction l with
 | nil=>simp [Rows.uptoBulkAll]
 | cons x r ih=>have:=bulk_one x;simp only [Rows.uptoBulkAll,List.length_cons];omega
theorem bulk_at {H:Type} {l:List (DataW H)} (hk:Rows.uptoSmall H l=true) {d:DataW H} (h:d∈l):Rows.uptoBulk d≤1048576 :=
 Nat.le_trans (bulk_part h) (of_decide_eq_true hk)
def lenD {H:Type}:DataW H→Nat
 | .slice elems _=>elems.length
 | _=>0
theorem lenD_bulk {H:Type} (d:DataW H):lenD d≤Rows.uptoBulk d:=by
 cases d with
 | slice elems spare=>have:=bulk_len elems;simp only [lenD,Rows.uptoBulk];omega
 | _=>exact Nat.zero_le _

set_option maxRecDepth 100000
section
variable {H : Type} {enc : TypeId × Value → H} {P : Program} {w : World} {base : Nat} {spare : Nat → Bool} {held : Bool}
end

set_option maxRecDepth 100000
section
variable {H : Type} {enc : TypeId × Value → H} {P : Program} {w : World} {base : Nat} {spare : Nat → Bool} {held : Bool}
theorem trod_bytes {v:Value} {y:DataW H×List MemPlace} {fuel:Nat} (h:DataW.trod enc Tryz.prog w base spare held fuel 59 [v]=some y):∃ a c xs,v=.slice a xs.length c∧Go.Proofs.YtdeeoddacnealaaGreat.P.BAt w a xs∧xs.length≤c:=by
 rcases open_slice1 Tryz.underlying59 (by kernel_rfl) h with ⟨h0,_⟩|⟨a,len,cap,m,n,V,D,Pl,hcs,hb,hl,hm,hmm,hx,hi⟩
 ·exact ⟨none,0,[],by simpa using h0,⟨.inl rfl,fun i hi=>(by cases hi),Nat.zero_le _⟩,Nat.le_refl _⟩
 ·have key:∀ i,i<len→∃ b:Nat,V i=.int .u8 (b:Nat)∧b<256:=fun i hi'=>by
   obtain ⟨b,h1,_,h2⟩:=DataW.trod_int Tryz.underlying5 (hi i (by rw [hmm];split <;> omega)).2
   simp only [Lit.wf,Bool.and_eq_true] at h2
   have h3:(0:Int)≤b:=of_decide_eq_true h2.1
   have h4:b≤(255:Int):=of_decide_eq_true h2.2
   refine ⟨b.toNat,?_,by omega⟩
   have e:((b.toNat:Nat):Int)=b:=by omega
   rw [e];simpa using h1
  obtain ⟨F,hF⟩:=choose_lt key
  have at':∀ i,i<len→((List.range len).map F)[i]?.getD 0=F i:=fun i hi'=>by simp [List.getElem?_map,List.getElem?_range hi']
  refine ⟨some a,cap,(List.range len).map F,by simpa using hcs,⟨?_,fun x hx=>?_,by simp;omega⟩,by simpa using hl⟩
  ·rcases Nat.eq_zero_or_pos len with hz|hp
   ·exact .inl (by simp [hz])
   ·obtain ⟨bl,o,sp⟩:=a
    have h0:=(hi 0 (by rw [hmm];split <;> omega)).1
    have hs:sp=none:=by simpa [Addr.add] using World.cell?_spot h0
    subst hs
    refine .inr ⟨bl,o,rfl,cell_lt' h0,fun i hi'=>?_⟩
    have hi2:i<len:=by simpa using hi'
    have:=(hi i (by rw [hmm];split <;> omega)).1
    rw [at' i hi2,←(hF i hi2).1]
    rw [addN] at this;exact this
  ·obtain ⟨i,hi',rfl⟩:=List.mem_map.1 hx
   exact (hF i (List.mem_range.1 hi')).2
end

set_option maxRecDepth 100000
section
variable {H : Type} {enc : TypeId × Value → H} {P : Program} {w : World} {base : Nat} {spare : Nat → Bool} {held : Bool}
theorem one_intM {t:TypeId} {c:Value} {y:DataW H×List MemPlace} {n:Nat} (ht:P.underlying t=some (.int .i64)) (h:DataW.trod enc P w base spare held n t [c]=some y):∃ b,c=.int .i64 b∧(-9223372036854775808≤b∧b≤9223372036854775807):=by
 obtain ⟨b,e,_,hw⟩:=DataW.trod_int ht h
 simp only [List.cons.injEq,and_true] at e
 simp only [Lit.wf,Bool.and_eq_true] at hw
 exact ⟨b,e,of_decide_eq_true hw.1,of_decide_eq_true hw.2⟩
theorem trod_lenM {ts te:TypeId} {a:Option Addr} {n c:Nat} {y:DataW H×List MemPlace} {fuel:Nat} (hu:P.underlying ts=some (.slice te)) (h:DataW.trod enc P w base spare held fuel ts [.slice a n c]=some y):n≤lenD y.1:=by
 rcases open_slice hu h with ⟨h0,_⟩|⟨a',len,cap,m,n',D,Pl,hcs,hb,hl,hm,hmm,hx,hi⟩
 ·have h0':[Value.slice a n c]=[Value.slice none 0 0]:=h0
  simp only [List.cons.injEq,Value.slice.injEq,and_true] at h0'
  omega
 ·have hcs':[Value.slice a n c]=[Value.slice (some a') len cap]:=hcs
  simp only [List.cons.injEq,Value.slice.injEq,and_true] at hcs'
  rw [hx];simp [lenD];omega
theorem bulk_agg {d:DataW H} {l:List (DataW H)} (h:d∈l):Rows.uptoBulk d≤Rows.uptoBulk (.agg l):=by
 have:=bulk_part h
 simp only [Rows.uptoBulk];omega
theorem trod_subM {cs:List Value} {y:DataW H×List MemPlace} {n:Nat} (h:DataW.trod enc Tryz.prog w base spare held n 41 cs=some y) (hbk:Rows.uptoBulk y.1≤1048576) :
  ∃ x:SubV,cs=[.int .i64 x.s0,.int .i64 x.s1,.int .i64 x.s2,.slice x.ra x.rs.length x.rc,.slice x.sa x.ss.length x.sc,.slice x.wa x.ws.length x.wc]∧x.At w∧(Go.Proofs.YtdeeoddacnealaaGreat.P.NumD x.s0∧Go.Proofs.YtdeeoddacnealaaGreat.P.NumD x.s1∧Go.Proofs.YtdeeoddacnealaaGreat.P.NumD x.s2)∧x.rs.length≤1048576∧x.ss.length≤1048576∧x.ws.length≤1048576:=by
 obtain ⟨xs,m,_,hx,hlen,hyl,hf⟩:=DataW.trod_struct Tryz.underlying41 h
 have h6:Tryz.prog.cellsOf 41 = 6:=by kernel_rfl
 rw [h6] at hlen
 match cs,hlen with
 | [c0,c1,c2,c3,c4,c5],_ =>
  match xs,hyl with
  | [y0,y1,y2,y3,y4,y5],_ =>
   have k1:Tryz.prog.cellsOf 2 = 1:=by kernel_rfl
   have k2:Tryz.prog.cellsOf 38 = 1:=by kernel_rfl
   have k3:Tryz.prog.cellsOf 39 = 1:=by kernel_rfl
   have t0:DataW.trod enc Tryz.prog w base spare held m 2 (([c0,c1,c2,c3,c4,c5].drop 0).take (Tryz.prog.cellsOf 2))=some y0:=hf 0 _ rfl
   have t1:DataW.trod enc Tryz.prog w base spare held m 2 (([c0,c1,c2,c3,c4,c5].drop 1).take (Tryz.prog.cellsOf 2))=some y1:=hf 1 _ rfl
   have t2:DataW.trod enc Tryz.prog w base spare held m 2 (([c0,c1,c2,c3,c4,c5].drop 2).take (Tryz.prog.cellsOf 2))=some y2:=hf 2 _ rfl
   have t3:DataW.trod enc Tryz.prog w base spare held m 38 (([c0,c1,c2,c3,c4,c5].drop 3).take (Tryz.prog.cellsOf 38))=some y3:=hf 3 _ rfl
   have t4:DataW.trod enc Tryz.prog w base spare held m 39 (([c0,c1,c2,c3,c4,c5].drop 4).take (Tryz.prog.cellsOf 39))=some y4:=hf 4 _ rfl
   have t5:DataW.trod enc Tryz.prog w base spare held m 38 (([c0,c1,c2,c3,c4,c5].drop 5).take (Tryz.prog.cellsOf 38))=some y5:=hf 5 _ rfl
   rw [k1] at t0 t1 t2
   rw [k2] at t3 t5
   rw [k3] at t4
   simp only [List.drop_succ_cons,List.drop_zero,List.take_succ_cons,List.take_zero] at t0 t1 t2 t3 t4 t5
   obtain ⟨s0,rfl,b0⟩:=one_intM Tryz.underlying2 t0
   obtain ⟨s1,rfl,b1⟩:=one_intM Tryz.underlying2 t1
   obtain ⟨s2,rfl,b2⟩:=one_intM Tryz.underlying2 t2
   obtain ⟨ra,n1,rc,rs,rfl,rfl,q1⟩:=trod_floats t3
   obtain ⟨sa,n2,sc,ss,rfl,rfl,q2⟩:=trod_spans t4
   obtain ⟨wa,n3,wc,ws,rfl,rfl,q3⟩:=trod_floats t5
   subst hx
   have z3:=trod_lenM Tryz.underlying38 t3
   have z4:=trod_lenM Tryz.underlying39 t4
   have z5:=trod_lenM Tryz.underlying38 t5
   have p3:=lenD_bulk y3.1
   have p4:=lenD_bulk y4.1
   have p5:=lenD_bulk y5.1
   have r3:Rows.uptoBulk y3.1≤1048576:=Nat.le_trans (bulk_agg (by simp)) hbk
   have r4:Rows.uptoBulk y4.1≤1048576:=Nat.le_trans (bulk_agg (by simp)) hbk
   have r5:Rows.uptoBulk y5.1≤1048576:=Nat.le_trans (bulk_agg (by simp)) hbk
   refine ⟨⟨s0,s1,s2,ra,rc,rs,sa,sc,ss,wa,wc,ws⟩,rfl,⟨q1,q2,q3⟩,⟨?_,?_,?_⟩,?_,?_,?_⟩
   ·unfold Go.Proofs.YtdeeoddacnealaaGreat.P.NumD;simp only;omega
   ·unfold Go.Proofs.YtdeeoddacnealaaGreat.P.NumD;simp only;omega
   ·unfold Go.Proofs.YtdeeoddacnealaaGreat.P.NumD;simp only;omega
   ·simp only;omega
   ·simp only;omega
   ·simp only;omega
theorem trod_opM {cs:List Value} {y:DataW H×List MemPlace} {n:Nat} (h:DataW.trod enc Tryz.prog w base spare held n 68 cs=some y) (hbk:Rows.uptoBulk y.1≤1048576) :
  ∃ o:M.OpV,cs=M.OpV.cells o∧o.At w.heap.size w:=by
 obtain ⟨xs,m,_,hx,hlen,hyl,hf⟩:=DataW.trod_struct Tryz.underlying68 h
 have h10:Tryz.prog.cellsOf 68 = 10:=by kernel_rfl
 rw [h10] at hlen
 match cs,hlen with
 | [c0,c1,c2,c3,c4,c5,c6,c7,c8,c9],_ =>
  match xs,hyl with
  | [y0,y1,y2,y3,y4],_ =>
   have k0:Tryz.prog.cellsOf 41 = 6:=by kernel_rfl
   have k1:Tryz.prog.cellsOf 4 = 1:=by kernel_rfl
   have k2:Tryz.prog.cellsOf 3 = 1:=by kernel_rfl
   have k3:Tryz.prog.cellsOf 59 = 1:=by kernel_rfl
   have k4:Tryz.prog.cellsOf 2 = 1:=by kernel_rfl
   have t0:DataW.trod enc Tryz.prog w base spare held m 41 (([c0,c1,c2,c3,c4,c5,c6,c7,c8,c9].drop 0).take (Tryz.prog.cellsOf 41))=some y0:=hf 0 _ rfl
   have t1:DataW.trod enc Tryz.prog w base spare held m 4 (([c0,c1,c2,c3,c4,c5,c6,c7,c8,c9].drop 6).take (Tryz.prog.cellsOf 4))=some y1:=hf 1 _ rfl
   have t2:DataW.trod enc Tryz.prog w base spare held m 3 (([c0,c1,c2,c3,c4,c5,c6,c7,c8,c9].drop 7).take (Tryz.prog.cellsOf 3))=some y2:=hf 2 _ rfl
   have t3:DataW.trod enc Tryz.prog w base spare held m 59 (([c0,c1,c2,c3,c4,c5,c6,c7,c8,c9].drop 8).take (Tryz.prog.cellsOf 59))=some y3:=hf 3 _ rfl
   have t4:DataW.trod enc Tryz.prog w base spare held m 2 (([c0,c1,c2,c3,c4,c5,c6,c7,c8,c9].drop 9).take (Tryz.prog.cellsOf 2))=some y4:=hf 4 _ rfl
   rw [k0] at t0
   rw [k1] at t1
   rw [k2] at t2
   rw [k3] at t3
   rw [k4] at t4
   simp only [List.drop_succ_cons,List.drop_zero,List.take_succ_cons,List.take_zero] at t0 t1 t2 t3 t4
   obtain ⟨raw,e1,_⟩:=DataW.trod_bool Tryz.underlying4 t1
   simp only [List.cons.injEq,and_true] at e1
   subst e1
   obtain ⟨kd,rfl,_⟩:=one_intM Tryz.underlying3 t2
   obtain ⟨gp,rfl,_⟩:=one_intM Tryz.underlying2 t4
   obtain ⟨da,dc,bs,rfl,q3,hdc⟩:=trod_bytes t3
   subst hx
   obtain ⟨x,hxs,hat,hnum,hls⟩:=trod_subM t0 (Nat.le_trans (bulk_agg (by simp)) hbk)
   simp only [List.cons.injEq,and_true] at hxs
   obtain ⟨rfl,rfl,rfl,rfl,rfl,rfl⟩:=hxs
   exact ⟨⟨x,raw,kd,da,dc,bs,gp⟩,rfl,⟨hat,hnum,hls,⟨q3.row,q3.lt,hdc⟩⟩⟩
end
theorem joined_of {P:Program} {f:FuncId} {fn:Func} {s:ChangeSpec} {c:OpenClaim} (h0:laidOutB P=true) (h1:(c.inPlace == P.inPlace f)=true) (h2:(c.unfollowed == P.unfollowed f)=true) (h3:(c.recurses == P.recurses f)=true) (h4:(c.named == P.varsNamed f)=true)
  (hr:(c.wf (OpenSpec.ofChange s) && mapsRowed P && fn.params.all (P.readableRec ·) && namedTie P c.named s.vars && (c.stops == []) && (P.stops == []) && (c.knobs == []) && (P.stopKnobs == []) &&
 (c.maps == (fn.params.toList++s.plain.varTypes P).any (P.mapsRec ·)) && (c.ifaces == (fn.params.toList++s.plain.varTypes P).any (P.ifacesRec ·)) && (c.mapsOut == P.mapsAmong fn.resultTypes.toList) &&
 (c.loops == (fn.params.toList++s.plain.varTypes P).any (P.loopsFrom ·)) && (c.wideKeys == (fn.params.toList++s.plain.varTypes P++fn.resultTypes.toList).any (P.wideKeysFrom ·)) &&
 s.vars.all (P.varReadable ·) && fn.resultTypes.all (fun t=>P.readableRec t && decide (t<P.types.size)) && (c.ifacesOut == fn.resultTypes.toList.any (P.ifacesRec ·)) && (c.loopsOut == fn.resultTypes.toList.any (P.loopsFrom ·)) && (c.plainKeys == P.plainKeys) && c.shortTexts.isNone && P.stopsHeard && P.mayEnter && (c.lifted == P.liftsFinal) && (P.make == some c.make) && (c.kinds == (if c.domain.isEmpty then [] else fn.params.toList.map fun t=>match P.underlying t with|some (.int k)=>some k|_=>none)) && (c.pinned == c.pinnedBy) &&
 (c.veiled == (fn.params.toList++s.plain.varTypes P++fn.resultTypes.toList).any (P.veiledRec ·)) && c.veiledFits P fn.params.toList (fn.params.toList++s.plain.varTypes P++fn.resultTypes.toList))=true):joinedFacts P f fn s c=true:=by
 simp only [joinedFacts,h0,h1,h2,h3,h4,Bool.and_true]
 exact hr

set_option maxRecDepth 100000
section
variable {H : Type} {enc : TypeId × Value → H} {P : Program} {w : World} {base : Nat} {spare : Nat → Bool} {held : Bool}
theorem open_kindsArg {r:Reach} {b0:Nat} {v:Value} {d:DataW H} {ps:List MemPlace} (hval:Value.okWide Tryz.prog w r b0 96 v) (hd:DataW.Trod enc Tryz.prog w base spare held 96 v d ps) (hbk:Rows.uptoBulk d≤1048576) :
  ∃ a c xs,v=.slice a xs.length c∧M.IntsAt w a xs∧xs.length≤1048576:=by
 obtain ⟨fuel,h⟩:=hd
 obtain ⟨av,n,c,rfl⟩:=okWide_slice Tryz.underlying96 hval
 have h:DataW.trod enc Tryz.prog w base spare held fuel 96 [.slice av n c]=some (d,ps):=h
 have hlen:=Nat.le_trans (trod_lenM Tryz.underlying96 h) (Nat.le_trans (lenD_bulk _) hbk)
 rcases open_slice1 Tryz.underlying96 (by kernel_rfl) h with ⟨h0,_⟩|⟨a,len,cap,m,n',V,D,Pl,hcs,hb,hl,hm,hmm,hx,hi⟩
 ·exact ⟨none,0,[],by simpa using h0,⟨.inl rfl⟩,Nat.zero_le _⟩
 ·have key:∀ i,i<len→∃ b:Int,V i=.int .i64 b:=fun i hi'=>by
   obtain ⟨b,h1,_⟩:=DataW.trod_int Tryz.underlying3 (hi i (by rw [hmm];split <;> omega)).2
   exact ⟨b,by simpa using h1⟩
  obtain ⟨F,hF⟩:=choose_lt key
  have at':∀ i,i<len→((List.range len).map F)[i]?.getD 0=F i:=fun i hi'=>by simp [List.getElem?_map,List.getElem?_range hi']
  have e:n=len:=by simp only [List.cons.injEq,Value.slice.injEq,and_true] at hcs;exact hcs.2.1
  refine ⟨some a,cap,(List.range len).map F,by simpa using hcs,⟨?_⟩,by simp;omega⟩
  rcases Nat.eq_zero_or_pos len with hz|hp
  ·exact .inl (by simp [hz])
  ·obtain ⟨bl,o,sp⟩:=a
   have h0:=(hi 0 (by rw [hmm];split <;> omega)).1
   have hs:sp=none:=by simpa [Addr.add] using World.cell?_spot h0
   subst hs
   refine .inr ⟨bl,o,rfl,cell_lt' h0,fun i hi'=>?_⟩
   have hi2:i<len:=by simpa using hi'
   have:=(hi i (by rw [hmm];split <;> omega)).1
   rw [at' i hi2,←hF i hi2]
   rw [addN] at this;exact this
theorem open_datasArg {r:Reach} {b0:Nat} {v:Value} {d:DataW H} {ps:List MemPlace} (hval:Value.okWide Tryz.prog w r b0 97 v) (hd:DataW.Trod enc Tryz.prog w base spare held 97 v d ps) (hbk:Rows.uptoBulk d≤1048576) :
  ∃ a c xs,v=.slice a xs.length c∧M.DsAt w a xs∧xs.length≤1048576:=by
 obtain ⟨fuel,h⟩:=hd
 obtain ⟨av,n,c,rfl⟩:=okWide_slice Tryz.underlying97 hval
 have h:DataW.trod enc Tryz.prog w base spare held fuel 97 [.slice av n c]=some (d,ps):=h
 have hlen:=Nat.le_trans (trod_lenM Tryz.underlying97 h) (Nat.le_trans (lenD_bulk _) hbk)
 rcases open_slice1 Tryz.underlying97 (by kernel_rfl) h with ⟨h0,_⟩|⟨a,len,cap,m,n',V,D,Pl,hcs,hb,hl,hm,hmm,hx,hi⟩
 ·exact ⟨none,0,[],by simpa using h0,⟨.inl rfl,fun i hi=>absurd hi (Nat.not_lt_zero _)⟩,Nat.zero_le _⟩
 ·have key:∀ i,i<len→∃ b:M.BsV,V i=.slice b.a b.bs.length b.c∧Go.Proofs.YtdeeoddacnealaaGreat.P.BelowB w.heap.size w b.a b.c b.bs:=fun i hi'=>by
   obtain ⟨a',c',bs,h1,h2,h3⟩:=trod_bytes (hi i (by rw [hmm];split <;> omega)).2
   exact ⟨⟨a',c',bs⟩,h1,⟨h2.row,h2.lt,h3⟩⟩
  haveI:Inhabited M.BsV:=⟨M.noBs⟩
  obtain ⟨F,hF⟩:=choose_lt key
  have at':∀ i,i<len→((List.range len).map F)[i]?.getD M.noBs=F i:=fun i hi'=>by simp [List.getElem?_map,List.getElem?_range hi']
  have e:n=len:=by simp only [List.cons.injEq,Value.slice.injEq,and_true] at hcs;exact hcs.2.1
  refine ⟨some a,cap,(List.range len).map F,by simpa using hcs,⟨?_,fun i hi'=>?_⟩,by simp;omega⟩
  ·rcases Nat.eq_zero_or_pos len with hz|hp
   ·exact .inl (by simp [hz])
   ·obtain ⟨bl,o,sp⟩:=a
    have h0:=(hi 0 (by rw [hmm];split <;> omega)).1
    have hs:sp=none:=by simpa [Addr.add] using World.cell?_spot h0
    subst hs
    refine .inr ⟨bl,o,rfl,cell_lt' h0,fun i hi'=>?_⟩
    have hi2:i<len:=by simpa using hi'
    have:=(hi i (by rw [hmm];split <;> omega)).1
    rw [at' i hi2,←(hF i hi2).1]
    rw [addN] at this;exact this
  ·have hi2:i<len:=by simpa using hi'
   rw [at' i hi2];exact (hF i hi2).2
theorem open_op14Arg {r:Reach} {b0:Nat} {v:Value} {d:DataW H} {ps:List MemPlace} (hval:Value.okWide Tryz.prog w r b0 68 v) (hd:DataW.Trod enc Tryz.prog w base spare held 68 v d ps) (hbk:Rows.uptoBulk d≤1048576) :
  ∃ o:M.OpV,v=.agg #[.int .i64 o.x.s0,.int .i64 o.x.s1,.int .i64 o.x.s2,.slice o.x.ra o.x.rs.length o.x.rc,.slice o.x.sa o.x.ss.length o.x.sc,.slice o.x.wa o.x.ws.length o.x.wc,.bool o.raw,.int .i64 o.kind,.slice o.a o.bs.length o.c,.int .i64 o.gap]∧o.At w.heap.size w:=by
 obtain ⟨cs,rfl,hsz⟩:=okWide_struct Tryz.underlying68 hval
 obtain ⟨l⟩:=cs
 obtain ⟨fuel,hf⟩:=hd
 obtain ⟨o,h1,h2⟩:=trod_opM (y:=(d,ps)) hf hbk
 refine ⟨o,?_,h2⟩
 have h3:l=M.OpV.cells o:=h1
 rw [h3];rfl
end

end Go.Proofs.YtdeeoddacnealaaGreat