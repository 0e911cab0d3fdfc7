/- Several texts as one: CH PZ0. -/
import Derived.Test.YtdeeoddacnealaaGreatMCE
import Derived.Test.YtdeeoddacnealaaGreatMNC
import Derived.WalkKit
set_option linter.unusedVariables false
set_option linter.unusedSimpArgs false
namespace Go.Proofs.YtdeeoddacnealaaGreat.C
open Go.RowKit Fl

theorem CAt.keep {B T:Nat} {c:CL} {ow:Nat→Nat} {w w':World} (h:CAt B T c ow w) (hs:w.heap.size≤w'.heap.size) (hk:∀ k,k<w.heap.size→ow k≠0→w'.heap[k]? = w.heap[k]?):CAt B T c ow w':=by
 have kp:∀ j:Nat,j≠0→Keeps w w' (fun k=>ow k=j):=fun j hj k hk' e=>hk k hk' (by rw [e];exact hj)
 have id:∀ S:Nat→Prop,∀ k,k<w.heap.size→S k→S k:=fun S k _ h=>h
 exact ⟨(hk T h.lt.2 (by rw [h.hT];decide)).trans h.box,h.hT,row_kept h.row fun g e=>hk g (h.row.lt g e).2 (by rw [(h.hrow g e).1];decide),h.hrow,h.k1.kept (id _) (kp 2 (by decide)),h.k2.kept (id _) (kp 3 (by decide)),h.k3.kept (id _) (kp 4 (by decide)),h.k4.kept (id _) (kp 5 (by decide)),fun r hr=>(h.subs r hr).kept (id _) (kp 6 (by decide)),fun k hk=>⟨(h.low k hk).1,Nat.lt_of_lt_of_le (h.low k hk).2 hs⟩,h.cnt,h.nums,h.kp,h.chk⟩

def CL.with (c:CL) (s:SumS):CL:={ c with i1:=s.i1,i2:=s.i2,i3:=s.i3,i4:=s.i4 }
structure SuI (w0:World) (B T:Nat) (c:CL) (ow:Nat→Nat) (R E:Nat) (r:RecV) (s:SumS) (w:World):Prop where
 ex:∃ ow',CAt B T (c.with s) ow' w∧Fr ow ow' w0 w∧ow' R=0∧ow' E=0
 hR:w0.heap.size≤R
 hE:w0.heap.size≤E∧E≠R
 qR:w.heap[R]? = some (.cells #[.int .i64 r.num,.int .i64 r.s.s0,.int .i64 r.s.s1,.int .i64 r.s.s2,.slice r.s.ra r.s.rs.length r.s.rc,.slice r.s.sa r.s.ss.length r.s.sc,.slice r.s.wa r.s.ws.length r.s.wc,.bool r.out] 122 (0,0))
 qE:w.heap[E]? = some (.cells #[.int .i64 s.e] 43 (0,0))
section
variable {w0 : World} {B T : Nat} {c : CL} {ow : Nat → Nat} {R E : Nat} {r : RecV} {s s' : SumS} {w w' : World}
theorem SuI.lt (h:SuI w0 B T c ow R E r s w):R<w.heap.size∧E<w.heap.size:=⟨(Array.getElem?_eq_some_iff.1 h.qR).1,(Array.getElem?_eq_some_iff.1 h.qE).1⟩
theorem SuI.below (h:SuI w0 B T c ow R E r s w) (k:Below w.heap.size w w'):SuI w0 B T c ow R E r s w':=by
 obtain ⟨ow',h1,h2,h3,h4⟩:=h.ex
 exact ⟨⟨ow',h1.below k,h2.trans (Fr.of_below ow' k),h3,h4⟩,h.hR,h.hE,(k.block _ h.lt.1).trans h.qR,(k.block _ h.lt.2).trans h.qE⟩
theorem SuI.put1 (h:SuI w0 B T c ow R E r s w) (kb:Nat) (hk:kb<2 ^ 64) :
  Calls Tryz.prog 120 #[.pointer (some ⟨c.t1,0,none⟩),.float .f64 kb,.int .i64 r.num] w fun e w'=>e=.returned (.int .i64 (putI s.i1 (mostI c.old) kb r.num).1)∧SuI w0 B T c ow R E r { s with i1:=(putI s.i1 (mostI c.old) kb r.num).2 } w':=by
 have H:=h
 obtain ⟨ow',k1,k2,k3,k4⟩:=h.ex
 refine (C.put1 k1 kb r.num hk).mono ?_
 rintro e w' ⟨rfl,ow'',k5,k6⟩
 exact ⟨rfl,⟨⟨ow'',k5,k2.trans k6,(k6.own _ H.lt.1).trans k3,(k6.own _ H.lt.2).trans k4⟩,H.hR,H.hE,(k6.block _ H.lt.1 k3).trans H.qR,(k6.block _ H.lt.2 k4).trans H.qE⟩⟩
theorem SuI.put2 (h:SuI w0 B T c ow R E r s w) (kb:Nat) (hk:kb<2 ^ 64) :
  Calls Tryz.prog 120 #[.pointer (some ⟨c.t2,0,none⟩),.float .f64 kb,.int .i64 r.num] w fun e w'=>e=.returned (.int .i64 (putI s.i2 (mostI c.old) kb r.num).1)∧SuI w0 B T c ow R E r { s with i2:=(putI s.i2 (mostI c.old) kb r.num).2 } w':=by
 have H:=h
 obtain ⟨ow',k1,k2,k3,k4⟩:=h.ex
 refine (C.put2 k1 kb r.num hk).mono ?_
 rintro e w' ⟨rfl,ow'',k5,k6⟩
 exact ⟨rfl,⟨⟨ow'',k5,k2.trans k6,(k6.own _ H.lt.1).trans k3,(k6.own _ H.lt.2).trans k4⟩,H.hR,H.hE,(k6.block _ H.lt.1 k3).trans H.qR,(k6.block _ H.lt.2 k4).trans H.qE⟩⟩
theorem SuI.put3 (h:SuI w0 B T c ow R E r s w) (kb:Nat) (hk:kb<2 ^ 64) :
  Calls Tryz.prog 120 #[.pointer (some ⟨c.t3,0,none⟩),.float .f64 kb,.int .i64 r.num] w fun e w'=>e=.returned (.int .i64 (putI s.i3 (mostI c.old) kb r.num).1)∧SuI w0 B T c ow R E r { s with i3:=(putI s.i3 (mostI c.old) kb r.num).2 } w':=by
 have H:=h
 obtain ⟨ow',k1,k2,k3,k4⟩:=h.ex
 refine (C.put3 k1 kb r.num hk).mono ?_
 rintro e w' ⟨rfl,ow'',k5,k6⟩
 exact ⟨rfl,⟨⟨ow'',k5,k2.trans k6,(k6.own _ H.lt.1).trans k3,(k6.own _ H.lt.2).trans k4⟩,H.hR,H.hE,(k6.block _ H.lt.1 k3).trans H.qR,(k6.block _ H.lt.2 k4).trans H.qE⟩⟩
theorem SuI.put4 (h:SuI w0 B T c ow R E r s w) (x:SpanV) (h1:x.lo<2 ^ 64) (h2:x.hi<2 ^ 64) :
  Calls Tryz.prog 121 #[.pointer (some ⟨c.t4,0,none⟩),.agg #[.float .f64 x.lo,.float .f64 x.hi,.bool x.a,.bool x.b],.int .i64 r.num] w fun e w'=>e=.returned (.int .i64 (Q.putI s.i4 (mostI c.old) x.rg r.num).1)∧SuI w0 B T c ow R E r { s with i4:=(Q.putI s.i4 (mostI c.old) x.rg r.num).2 } w':=by
 have H:=h
 obtain ⟨ow',k1,k2,k3,k4⟩:=h.ex
 refine (C.put4 k1 x.lo x.hi x.a x.b r.num h1 h2).mono ?_
 rintro e w' ⟨rfl,ow'',k5,k6⟩
 exact ⟨rfl,⟨⟨ow'',k5,k2.trans k6,(k6.own _ H.lt.1).trans k3,(k6.own _ H.lt.2).trans k4⟩,H.hR,H.hE,(k6.block _ H.lt.1 k3).trans H.qR,(k6.block _ H.lt.2 k4).trans H.qE⟩⟩
theorem SuI.set (h:SuI w0 B T c ow R E r s w) (v:Int):SuI w0 B T c ow R E r { s with e:=v } (w.setCell ⟨E,0,none⟩ (.int .i64 v)):=by
 obtain ⟨ow',k1,k2,k3,k4⟩:=h.ex
 obtain ⟨q,g⟩:=K.set1 (i:=0) h.qE (.int .i64 v)
 have hlt:=h.lt
 have hk:∀ k,k<w.heap.size→k≠E→(w.setCell ⟨E,0,none⟩ (.int .i64 v)).heap[k]? = w.heap[k]?:=fun k hk hn=>g.block k hk fun e=>hn (Option.some.inj e)
 exact ⟨⟨ow',k1.keep g.size fun k hk' h0=>hk k hk' fun e=>h0 (e ▸ k4),⟨g.os.trans k2.os,g.tape.trans k2.tape,g.output.trans k2.output,Nat.le_trans k2.size g.size,fun k hk' h0=>(hk k (Nat.lt_of_lt_of_le hk' k2.size) (by have:=h.hE.1;omega)).trans (k2.block k hk' h0),k2.own⟩,k3,k4⟩,h.hR,h.hE,(hk _ hlt.1 h.hE.2.symm).trans h.qR,q⟩
theorem SuI.note (h:SuI w0 B T c ow R E r s w) (f:Int) :
  Calls Tryz.prog 119 #[.int .i64 f,.pointer (some ⟨E,0,none⟩)] w fun e w'=>e=.returned (.tuple #[])∧SuI w0 B T c ow R E r { s with e:=C.note s.e f } w':=by
 have hl:=h.lt.2
 have c0:=cell_row h.qE 0
 have f0:w.frozen? ⟨E,0,none⟩=false:=by simp [World.frozen?,h.qE]
 have c0:w.cell? ⟨E,0,none⟩=some (.int .i64 s.e):=c0
 have H1:=hid (h.set f)
 have H2:=hid h
 clear h
 unfold C.note
 by_cases he:s.e=0
 ·rw [if_pos he]
  rw [he] at c0
  go_enter Tryz.func119,Tryz.ntmps119
  go_wp2_with fail
  go_end0
  exact ⟨rfl,H1.out⟩
 ·rw [if_neg he]
  have hb:(s.e == 0)=false:=by simpa using he
  go_enter Tryz.func119,Tryz.ntmps119
  go_wp2_with fail
  go_end0
  exact ⟨rfl,H2.out⟩
end
end Go.Proofs.YtdeeoddacnealaaGreat.C
namespace Go.Proofs.YtdeeoddacnealaaGreat.P
open Go

theorem ls0 {ms:List Value} (h:ms.length=0):ms=[]:=List.eq_nil_of_length_eq_zero h
theorem ls1 {ms:List Value} (h:ms.length=1):∃ a,ms=[a]:=by
 match ms,h with
 | [a],_=>exact ⟨a,rfl⟩
theorem ls2 {ms:List Value} (h:ms.length=2):∃ a b,ms=[a,b]:=by
 match ms,h with
 | [a,b],_=>exact ⟨a,b,rfl⟩
theorem ls3 {ms:List Value} (h:ms.length=3):∃ a b c,ms=[a,b,c]:=by
 match ms,h with
 | [a,b,c],_=>exact ⟨a,b,c,rfl⟩
theorem ls4 {ms:List Value} (h:ms.length=4):∃ a b c d,ms=[a,b,c,d]:=by
 match ms,h with
 | [a,b,c,d],_=>exact ⟨a,b,c,d,rfl⟩
theorem ls5 {ms:List Value} (h:ms.length=5):∃ a b c d e,ms=[a,b,c,d,e]:=by
 match ms,h with
 | [a,b,c,d,e],_=>exact ⟨a,b,c,d,e,rfl⟩

end Go.Proofs.YtdeeoddacnealaaGreat.P