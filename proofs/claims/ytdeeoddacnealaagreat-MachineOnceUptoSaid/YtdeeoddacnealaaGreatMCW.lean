/- Several texts as one: CU CX SQ CW DR CZ0 CAG. -/
import Derived.Test.YtdeeoddacnealaaGreatMCQ
import Derived.Test.YtdeeoddacnealaaGreatMCE
import Derived.Test.YtdeeoddacnealaaGreatCV
import Derived.Test.YtdeeoddacnealaaGreatMR
import Derived.Test.YtdeeoddacnealaaGreatMCR
import Derived.Test.YtdeeoddacnealaaGreatMPE
import Derived.Test.YtdeeoddacnealaaGreatCO
set_option linter.unusedVariables false
set_option linter.unusedSimpArgs false
namespace Go.Proofs.YtdeeoddacnealaaGreat.C
open Go.RowKit Fl

def snapV (x:SubV) (n:Int):SubV:=if x.s2<0∧-50<x.s2 then { x with s2:=max (n+1+x.s2) 0 } else x
theorem snapV_at {x:SubV} {w:World} (h:x.At w) (n:Int):(snapV x n).At w:=by
 unfold snapV
 split
 ·exact ⟨h.r,h.s,h.w⟩
 ·exact h
theorem set6 {w:World} {g:Nat} {T:TypeId} {a0 a1 a2 a3 a4 a5:Value} (h:w.heap[g]? = some (.cells #[a0,a1,a2,a3,a4,a5] T (0,0))) (v0 v1 v2 v3 v4 v5:Value) :
  ((((((w.setCell ⟨g,0,none⟩ v0).setCell ⟨g,1,none⟩ v1).setCell ⟨g,2,none⟩ v2).setCell ⟨g,3,none⟩ v3).setCell ⟨g,4,none⟩ v4).setCell ⟨g,5,none⟩ v5).heap[g]? = some (.cells #[v0,v1,v2,v3,v4,v5] T (0,0)) ∧
  w.grownBy ((((((w.setCell ⟨g,0,none⟩ v0).setCell ⟨g,1,none⟩ v1).setCell ⟨g,2,none⟩ v2).setCell ⟨g,3,none⟩ v3).setCell ⟨g,4,none⟩ v4).setCell ⟨g,5,none⟩ v5) (some g):=by
 obtain ⟨q0,k0⟩:=K.set1 (i:=0) h v0
 obtain ⟨q1,k1⟩:=K.set1 (i:=1) q0 v1
 obtain ⟨q2,k2⟩:=K.set1 (i:=2) q1 v2
 obtain ⟨q3,k3⟩:=K.set1 (i:=3) q2 v3
 obtain ⟨q4,k4⟩:=K.set1 (i:=4) q3 v4
 obtain ⟨q5,k5⟩:=K.set1 (i:=5) q4 v5
 exact ⟨q5,((((k0.trans k1).trans k2).trans k3).trans k4).trans k5⟩

def noSub:SubV:=⟨0,0,0,none,0,[],none,0,[],none,0,[]⟩
instance:Inhabited SubV:=⟨noSub⟩

theorem chk_of_code {c:CL} {x:SubV} {k:Int} (h:codeD c x k=0):k=0:=by
 unfold codeD at h
 by_cases hk:k≠0
 ·rw [if_pos hk] at h;exact h
 ·exact Classical.byContradiction hk
open Go.Proofs.YtdeeoddacnealaaGreat.P (bCells BAt)

def Rights (ds:List RecV):Prop:=∀ r∈ds,K.SubV.check r.s=0
theorem Rights.nil:Rights []:=fun _ h=>by cases h
theorem Rights.snoc {ds:List RecV} (h:Rights ds) {r:RecV} (hr:K.SubV.check r.s=0):Rights (ds++[r]):=fun q hq=>by
 rcases List.mem_append.1 hq with h1|h1
 ·exact h q h1
 ·rw [List.mem_singleton.1 h1];exact hr
theorem own_bat2 {w:World} {base n:Nat} {a:Option Addr} {c:Nat} {xs:List Nat} (hn:xs.length=n) (h:w.ownsRow base 5 1 (.slice a n c) n (bCells xs)) (hlt:∀ x∈xs,x<256):BAt w a xs:=by
 have hl:n≤maxLen:=by
  rcases h.2 with ⟨_,h2⟩|⟨g,cap,cur,h1,_,_,h3,h4,_⟩
  ·rw [h2];exact Nat.zero_le _
  ·exact Nat.le_trans h3 h4
 refine ⟨?_,hlt,by rw [hn];exact hl⟩
 rcases h.2 with ⟨_,h2⟩|⟨g,cap,cur,h1,_⟩
 ·exact .inl (List.eq_nil_of_length_eq_zero (by omega))
 ·cases h1
  refine .inr ⟨g,0,rfl,(h.lt g rfl).2,fun i hi=>?_⟩
  have:=h.cells (g:=g) rfl i (.int .u8 (xs[i]?.getD 0:Nat)) (by unfold bCells;rw [List.getElem?_map,List.getElem?_eq_getElem hi];simp)
  rw [K.addr0] at this
  rw [Nat.zero_add];exact this

end Go.Proofs.YtdeeoddacnealaaGreat.C