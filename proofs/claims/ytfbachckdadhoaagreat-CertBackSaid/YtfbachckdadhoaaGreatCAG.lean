/- The walk of CertAges. -/
import Derived.Test.YtfbachckdadhoaaGreatMBY
import Derived.Test.YtfbachckdadhoaaGreatCZ0
import Derived.Test.YtfbachckdadhoaaGreatMPE
namespace Go.Proofs.YtfbachckdadhoaaGreat.C
set_option linter.unusedVariables false
open Go.RowKit Fl
open Go.Proofs.YtfbachckdadhoaaGreat.P (bCells BAt)
set_option linter.unusedSimpArgs false

def Rights (ds:List RecV):Prop:=∀ r∈ds,K.SubV.check r.s=0
theorem Rights.nil:Rights []:=fun _ h=>by cases h
theorem Rights.snoc {ds:List RecV} (h:Rights ds) {r:RecV} (hr:K.SubV.check r.s=0):Rights (ds++[r]):=fun q hq=>by
 rcases List.mem_append.1 hq with h1|h1
 ·exact h q h1
 ·rw [List.mem_singleton.1 h1];exact hr
theorem Inv.bytes {B T:Nat} {c:CL} {ow:Nat→Nat} {w:World} (h:CAt B T c ow w) {ds:List RecV} {m:Nat} (hI:Inv (CL.n c) ds m) (hr:Rights ds):Calls Tryz.prog 27 #[.pointer (some ⟨T,0,none⟩)] w (BytesRet c w):=by
 have hc:=h.cnt
 have key:∀ {f:SubV→List Nat} {its:List ItV},TbF ds f its→∀ x∈its,0≤x.n∧x.n≤1099511627776:=fun t x hx=>by
  have h1:=t.ps x hx
  obtain ⟨r,h2,h3,_⟩:=t.fr x hx
  have h4:=(hI.num h2).2
  have h5:(CL.n c).count=c.count:=rfl
  omega
 refine bytes_any h (fun r hr'=>?_) (fun x hx=>?_) fun x hx=>?_
 ·have h1:RecV.n r∈(CL.n c).recs:=List.mem_map_of_mem hr'
  rw [hI.recs] at h1
  exact hr (RecV.n r) (List.mem_of_mem_drop h1)
 ·rcases List.mem_append.1 hx with hx|hx
  ·rcases List.mem_append.1 hx with hx|hx
   ·exact key hI.tabs.h1 x hx
   ·exact key hI.tabs.h2 x hx
  ·exact key hI.tabs.h3 x hx
 ·have h1:=hI.tabs.h4.ps x hx
  obtain ⟨r,h2,h3,_⟩:=hI.tabs.h4.fr x hx
  have h4:=(hI.num h2).2
  have h5:(CL.n c).count=c.count:=rfl
  omega
theorem bytesC_lt (c:CL):∀ b∈bytesC c,b<256:=by
 have hn:∀ n,∀ b∈P.numB n,b<256:=fun n b hb=>P.vlq_byte _ b hb
 have hk:∀ u,∀ b∈P.keyB u,b<256:=fun u c hc=>by
  unfold P.keyB at hc
  simp only [List.mem_cons,List.not_mem_nil,or_false] at hc
  rcases hc with rfl|rfl|rfl|rfl|rfl|rfl|rfl|rfl <;> exact Nat.mod_lt _ (by decide)
 have hr:∀ r,∀ b∈recB r,b<256:=fun r b hb=>by
  unfold recB at hb
  rcases List.mem_cons.1 hb with rfl|hb
  ·split <;> decide
  ·rcases List.mem_append.1 hb with hb|hb
   ·exact hn _ b hb
   ·exact P.encO_byte _ b hb
 have hi:∀ its,∀ b∈itsB its,b<256:=fun its b hb=>by
  unfold itsB at hb
  rcases List.mem_append.1 hb with hb|hb
  ·exact hn _ b hb
  ·obtain ⟨x,_,hb⟩:=List.mem_flatMap.1 hb
   unfold itB at hb
   rcases List.mem_append.1 hb with hb|hb
   ·exact hk _ b hb
   ·exact hn _ b hb
 intro b hb
 unfold bytesC headB at hb
 simp only [List.mem_append] at hb
 rcases hb with (((((hb|hb)|hb)|hb)|hb)|hb)|hb
 ·rcases hb with hb|hb
  ·exact hn _ b hb
  ·exact hn _ b hb
 ·exact hn _ b hb
 ·obtain ⟨x,_,hb⟩:=List.mem_flatMap.1 hb
  exact hr x b hb
 ·exact hi _ b hb
 ·exact hi _ b hb
 ·exact hi _ b hb
 ·unfold itqsB at hb
  rcases List.mem_append.1 hb with hb|hb
  ·exact hn _ b hb
  ·obtain ⟨x,_,hb⟩:=List.mem_flatMap.1 hb
   unfold itqB at hb
   simp only [List.mem_append] at hb
   rcases hb with (hb|hb)|hb
   ·exact hk _ b hb
   ·exact hk _ b hb
   ·exact hn _ b hb
theorem own_bat2 {w:World} {base n:Nat} {a:Option Addr} {c:Nat} {xs:List Nat} (hn:xs.length=n) (h:w.ownsRow base 5 1 (.slice a n c) n (bCells xs)) (hlt:∀ x∈xs,x<256):BAt w a xs:=by
 have hl:n≤maxLen:=by
  rcases h.2 with ⟨_,h2⟩|⟨g,cap,cur,h1,_,_,h3,h4,_⟩
  ·rw [h2];exact Nat.zero_le _
  ·exact Nat.le_trans h3 h4
 refine ⟨?_,hlt,by rw [hn];exact hl⟩
 rcases h.2 with ⟨_,h2⟩|⟨g,cap,cur,h1,_⟩
 ·exact .inl (List.eq_nil_of_length_eq_zero (by omega))
 ·cases h1
  refine .inr ⟨g,0,rfl,(h.lt g rfl).2,fun i hi=>?_⟩
  have:=h.cells (g:=g) rfl i (.int .u8 (xs[i]?.getD 0:Nat)) (by unfold bCells;rw [List.getElem?_map,List.getElem?_eq_getElem hi];simp)
  rw [K.addr0] at this
  rw [Nat.zero_add];exact this
end Go.Proofs.YtfbachckdadhoaaGreat.C
