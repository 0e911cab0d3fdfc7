/- Several texts as one: CBK CBW. -/
import Derived.Test.YtdeeoddacnealaaGreatMCW
import Derived.Test.YtdeeoddacnealaaGreatMLD
import Derived.Test.YtdeeoddacnealaaGreatMPD
import Derived.Test.YtdeeoddacnealaaGreatMCR
set_option linter.unusedVariables false
set_option linter.unusedSimpArgs false
namespace Go.Proofs.YtdeeoddacnealaaGreat.C
open Go.RowKit Fl
open Go.Proofs.YtdeeoddacnealaaGreat.P (bCells BAt BelowB)

def stepC (c:CL) (x:SubV) (k:Int):CL:=if codeD c x k=0 then c.commit x (decide (0<(lookD c x).least)) else c
def numC (c:CL) (x:SubV) (k:Int):Int:=if codeD c x k=0 then c.count+1 else 0
structure BackS (c:CL) (ds:List RecV) (m:Nat) (F:List RecV):Prop where
 inv:Inv c ds m
 rts:Rights ds
 snp:∀ r∈ds,r.s.s2<r.num
 fold:Fold c F
def Back (c:CL):Prop:=∃ ds m F,BackS (CL.n c) ds m F
theorem Back.new (kp m:Int) (hk:1≤kp) (t1 t2 t3 t4:Nat):Back (newC kp m t1 t2 t3 t4):=⟨[],0,[],Inv.new kp m hk t1 t2 t3 t4,Rights.nil,fun _ h=>(by cases h),Fold.new kp m t1 t2 t3 t4⟩
theorem code_snap {c:CL} {x:SubV} {k:Int} (h:codeD c x k=0):x.s2≤c.count:=by
 unfold codeD at h
 by_cases h1:k≠0
 ·rw [if_pos h1] at h;exact absurd h h1
 ·rw [if_neg h1] at h
  by_cases h2:c.count=1099511627776
  ·rw [if_pos h2] at h;cases h
  ·rw [if_neg h2] at h
   by_cases h3:c.count<x.s2
   ·rw [if_pos h3] at h;cases h
   ·omega
theorem dec_back {B T:Nat} {c:CL} {ow:Nat→Nat} {w:World} (h:CAt B T c ow w) (hB:Back c) {x:SubV} (hx:SubL (fun k=>ow k=0) x w) :
  Calls Tryz.prog 14 #[.pointer (some ⟨T,0,none⟩),.agg #[.int .i64 x.s0,.int .i64 x.s1,.int .i64 x.s2,.slice x.ra x.rs.length x.rc,.slice x.sa x.ss.length x.sc,.slice x.wa x.ws.length x.wc]] w fun e w'=>e=.returned (.agg #[.int .i64 (codeD (CL.n c) (SubV.n x) (K.SubV.check x)),.int .i64 (numC (CL.n c) (SubV.n x) (K.SubV.check x))])∧∃ (c':CL) (ow':Nat→Nat),CAt B T c' ow' w'∧Fr ow ow' w w'∧Back c'∧CL.n c'=stepC (CL.n c) (SubV.n x) (K.SubV.check x)∧c'.keep=c.keep∧c'.old=c.old:=by
 obtain ⟨ds,m,F,hI,hr,hs,hF⟩:=hB
 have hmk:(c.recs.length:Int)≤c.keep:=by have:=hI.few;simpa [CL.n] using this
 by_cases hcd:codeD (CL.n c) (SubV.n x) (K.SubV.check x)=0
 ·have hk0:=chk_of_code hcd
  refine (dec_ok h hmk ⟨rfl,rfl,rfl,rfl,rfl,rfl⟩ hx hk0 (by rw [hk0] at hcd;exact hcd) rfl).mono ?_
  rintro e w' ⟨rfl,c',ow',h1,h2,h3⟩
  obtain ⟨m',h4,h5,_,h6,h7,h8,h9⟩:=hI.commit (SubV.n x) (decide (0<(lookD (CL.n c) (SubV.n x)).least))
  obtain ⟨F',hF'⟩:=hF.commit hI (SubV.n x) (decide (0<(lookD (CL.n c) (SubV.n x)).least))
  have hsn:=code_snap hcd
  unfold stepC numC
  rw [if_pos hcd,if_pos hcd,hcd]
  rw [←h3] at h4 h8 h9 hF'
  refine ⟨rfl,c',ow',h1,h2,⟨_,m',F',h4,hr.snoc hk0,fun r hr'=>?_,hF'⟩,h3,h8,h9⟩
  rcases List.mem_append.1 hr' with hr'|hr'
  ·exact hs r hr'
  ·rw [List.mem_singleton.1 hr'];simp only;omega
 ·refine (dec_no h hmk (x:=x) ⟨rfl,rfl,rfl,rfl,rfl,rfl⟩ hx rfl hcd).mono ?_
  rintro e w' ⟨rfl,ow',h1,h2⟩
  unfold stepC numC
  rw [if_neg hcd,if_neg hcd]
  exact ⟨rfl,c,ow',h1,h2,⟨ds,m,F,hI,hr,hs,hF⟩,rfl,rfl,rfl⟩
theorem Back.bytes {B T:Nat} {c:CL} {ow:Nat→Nat} {w:World} (h:CAt B T c ow w) (hB:Back c):Calls Tryz.prog 21 #[.pointer (some ⟨T,0,none⟩)] w (BytesRet c w):=by
 obtain ⟨ds,m,F,hI,hr,hs,hF⟩:=hB
 exact Inv.bytes h hI hr
theorem own_belowB {w:World} {base n:Nat} {a:Option Addr} {c:Nat} {xs:List Nat} (hn:xs.length=n) (h:w.ownsRow base 5 1 (.slice a n c) n (bCells xs)) (hlt:∀ x∈xs,x<256):BelowB w.heap.size w a c xs:=by
 have h1:=own_bat2 hn h hlt
 refine ⟨h1.row,hlt,?_⟩
 rcases h.2 with ⟨h2,h3⟩|⟨g,cap,cur,h2,_,_,h3,h4,_⟩
 ·rw [hn,h3];exact Nat.zero_le _
 ·cases h2;rw [hn];exact h3

section
variable {w x x' : World} {T B2 T2 : Nat} {c d : CL} {o1 o2 : Nat → Nat}
end

end Go.Proofs.YtdeeoddacnealaaGreat.C