/- Several texts as one: CU CX SQ CW DR CZ0 CAG. -/
import Derived.Test.YtdeeoddacnealaaGreatMCQ
import Derived.Test.YtdeeoddacnealaaGreatMCE
import Derived.Test.YtdeeoddacnealaaGreatCV
import Derived.Test.YtdeeoddacnealaaGreatMR
import Derived.Test.YtdeeoddacnealaaGreatMCR
import Derived.Test.YtdeeoddacnealaaGreatMBY
import Derived.Test.YtdeeoddacnealaaGreatMPE
set_option linter.unusedVariables false
set_option linter.unusedSimpArgs false
namespace Go.Proofs.YtdeeoddacnealaaGreat.C
open Go.RowKit Fl

def snapV (x:SubV) (n:Int):SubV:=if x.s2<0∧-50<x.s2 then { x with s2:=max (n+1+x.s2) 0 } else x
theorem snapV_at {x:SubV} {w:World} (h:x.At w) (n:Int):(snapV x n).At w:=by
 unfold snapV
 split
 ·exact ⟨h.r,h.s,h.w⟩
 ·exact h
theorem set6 {w:World} {g:Nat} {T:TypeId} {a0 a1 a2 a3 a4 a5:Value} (h:w.heap[g]? = some (.cells #[a0,a1,a2,a3,a4,a5] T (0,0))) (v0 v1 v2 v3 v4 v5:Value) :
  ((((((w.setCell ⟨g,0,none⟩ v0).setCell ⟨g,1,none⟩ v1).setCell ⟨g,2,none⟩ v2).setCell ⟨g,3,none⟩ v3).setCell ⟨g,4,none⟩ v4).setCell ⟨g,5,none⟩ v5).heap[g]? = some (.cells #[v0,v1,v2,v3,v4,v5] T (0,0)) ∧
  w.grownBy ((((((w.setCell ⟨g,0,none⟩ v0).setCell ⟨g,1,none⟩ v1).setCell ⟨g,2,none⟩ v2).setCell ⟨g,3,none⟩ v3).setCell ⟨g,4,none⟩ v4).setCell ⟨g,5,none⟩ v5) (some g):=by
 obtain ⟨q0,k0⟩:=K.set1 (i:=0) h v0
 obtain ⟨q1,k1⟩:=K.set1 (i:=1) q0 v1
 obtain ⟨q2,k2⟩:=K.set1 (i:=2) q1 v2
 obtain ⟨q3,k3⟩:=K.set1 (i:=3) q2 v3
 obtain ⟨q4,k4⟩:=K.set1 (i:=4) q3 v4
 obtain ⟨q5,k5⟩:=K.set1 (i:=5) q4 v5
 exact ⟨q5,((((k0.trans k1).trans k2).trans k3).trans k4).trans k5⟩

def noSub:SubV:=⟨0,0,0,none,0,[],none,0,[],none,0,[]⟩
instance:Inhabited SubV:=⟨noSub⟩

theorem chk_of_code {c:CL} {x:SubV} {k:Int} (h:codeD c x k=0):k=0:=by
 unfold codeD at h
 by_cases hk:k≠0
 ·rw [if_pos hk] at h;exact h
 ·exact Classical.byContradiction hk
open Go.Proofs.YtdeeoddacnealaaGreat.P (bCells BAt)

def Rights (ds:List RecV):Prop:=∀ r∈ds,K.SubV.check r.s=0
theorem Rights.nil:Rights []:=fun _ h=>by cases h
theorem Rights.snoc {ds:List RecV} (h:Rights ds) {r:RecV} (hr:K.SubV.check r.s=0):Rights (ds++[r]):=fun q hq=>by
 rcases List.mem_append.1 hq with h1|h1
 ·exact h q h1
 ·rw [List.mem_singleton.1 h1];exact hr
theorem Inv.bytes {B T:Nat} {c:CL} {ow:Nat→Nat} {w:World} (h:CAt B T c ow w) {ds:List RecV} {m:Nat} (hI:Inv (CL.n c) ds m) (hr:Rights ds):Calls Tryz.prog 21 #[.pointer (some ⟨T,0,none⟩)] w (BytesRet c w):=by
 have hc:=h.cnt
 have key:∀ {f:SubV→List Nat} {its:List ItV},TbF ds f its→∀ x∈its,0≤x.n∧x.n≤1099511627776:=fun t x hx=>by
  have h1:=t.ps x hx
  obtain ⟨r,h2,h3,_⟩:=t.fr x hx
  have h4:=(hI.num h2).2
  have h5:(CL.n c).count=c.count:=rfl
  omega
 refine bytes_any h (fun r hr'=>?_) (fun x hx=>?_) fun x hx=>?_
 ·have h1:RecV.n r∈(CL.n c).recs:=List.mem_map_of_mem hr'
  rw [hI.recs] at h1
  exact hr (RecV.n r) (List.mem_of_mem_drop h1)
 ·rcases List.mem_append.1 hx with hx|hx
  ·rcases List.mem_append.1 hx with hx|hx
   ·exact key hI.tabs.h1 x hx
   ·exact key hI.tabs.h2 x hx
  ·exact key hI.tabs.h3 x hx
 ·have h1:=hI.tabs.h4.ps x hx
  obtain ⟨r,h2,h3,_⟩:=hI.tabs.h4.fr x hx
  have h4:=(hI.num h2).2
  have h5:(CL.n c).count=c.count:=rfl
  omega
theorem bytesC_lt (c:CL):∀ b∈bytesC c,b<256:=by
 have hn:∀ n,∀ b∈P.numB n,b<256:=fun n b hb=>P.vlq_byte _ b hb
 have hk:∀ u,∀ b∈P.keyB u,b<256:=fun u c hc=>by
  unfold P.keyB at hc
  simp only [List.mem_cons,List.not_mem_nil,or_false] at hc
  rcases hc with rfl|rfl|rfl|rfl|rfl|rfl|rfl|rfl <;> exact Nat.mod_lt _ (by decide)
 have hr:∀ r,∀ b∈recB r,b<256:=fun r b hb=>by
  unfold recB at hb
  rcases List.mem_cons.1 hb with rfl|hb
  ·split <;> decide
  ·rcases List.mem_append.1 hb with hb|hb
   ·exact hn _ b hb
   ·exact P.encO_byte _ b hb
 have hi:∀ its,∀ b∈itsB its,b<256:=fun its b hb=>by
  unfold itsB at hb
  rcases List.mem_append.1 hb with hb|hb
  ·exact hn _ b hb
  ·obtain ⟨x,_,hb⟩:=List.mem_flatMap.1 hb
   unfold itB at hb
   rcases List.mem_append.1 hb with hb|hb
   ·exact hk _ b hb
   ·exact hn _ b hb
 intro b hb
 unfold bytesC headB at hb
 simp only [List.mem_append] at hb
 rcases hb with (((((hb|hb)|hb)|hb)|hb)|hb)|hb
 ·rcases hb with hb|hb
  ·exact hn _ b hb
  ·exact hn _ b hb
 ·exact hn _ b hb
 ·obtain ⟨x,_,hb⟩:=List.mem_flatMap.1 hb
  exact hr x b hb
 ·exact hi _ b hb
 ·exact hi _ b hb
 ·exact hi _ b hb
 ·unfold itqsB at hb
  rcases List.mem_append.1 hb with hb|hb
  ·exact hn _ b hb
  ·obtain ⟨x,_,hb⟩:=List.mem_flatMap.1 hb
   unfold itqB at hb
   simp only [List.mem_append] at hb
   rcases hb with (hb|hb)|hb
   ·exact hk _ b hb
   ·exact hk _ b hb
   ·exact hn _ b hb
theorem own_bat2 {w:World} {base n:Nat} {a:Option Addr} {c:Nat} {xs:List Nat} (hn:xs.length=n) (h:w.ownsRow base 5 1 (.slice a n c) n (bCells xs)) (hlt:∀ x∈xs,x<256):BAt w a xs:=by
 have hl:n≤maxLen:=by
  rcases h.2 with ⟨_,h2⟩|⟨g,cap,cur,h1,_,_,h3,h4,_⟩
  ·rw [h2];exact Nat.zero_le _
  ·exact Nat.le_trans h3 h4
 refine ⟨?_,hlt,by rw [hn];exact hl⟩
 rcases h.2 with ⟨_,h2⟩|⟨g,cap,cur,h1,_⟩
 ·exact .inl (List.eq_nil_of_length_eq_zero (by omega))
 ·cases h1
  refine .inr ⟨g,0,rfl,(h.lt g rfl).2,fun i hi=>?_⟩
  have:=h.cells (g:=g) rfl i (.int .u8 (xs[i]?.getD 0:Nat)) (by unfold bCells;rw [List.getElem?_map,List.getElem?_eq_getElem hi];simp)
  rw [K.addr0] at this
  rw [Nat.zero_add];exact this

end Go.Proofs.YtdeeoddacnealaaGreat.C