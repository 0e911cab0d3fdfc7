/- A row of submissions as it lies. -/
import Derived.Test.YtfbachckdadhoaaGreatMR
namespace Go.Proofs.YtfbachckdadhoaaGreat.C
set_option linter.unusedVariables false
open Go.RowKit Fl

def sEnc (x:SubV):List Value:=[.int .i64 x.s0,.int .i64 x.s1,.int .i64 x.s2,.slice x.ra x.rs.length x.rc,.slice x.sa x.ss.length x.sc,.slice x.wa x.ws.length x.wc]
def noSub:SubV:=⟨0,0,0,none,0,[],none,0,[],none,0,[]⟩
instance:Inhabited SubV:=⟨noSub⟩
structure SqAt (w:World) (a:Option Addr) (xs:List SubV):Prop where
 row:xs=[]∨∃ b o,a=some ⟨b,o,none⟩∧b<w.heap.size∧∀ i,i<xs.length→∀ t v,(sEnc (xs[i]?.getD noSub))[t]? = some v→w.cell? ⟨b,o+i * 6+t,none⟩=some v
 sub:∀ i,i<xs.length→(xs[i]?.getD noSub).At w
theorem SqAt.below {w w':World} {a:Option Addr} {xs:List SubV} (h:SqAt w a xs) (hb:Below w.heap.size w w'):SqAt w' a xs:=by
 refine ⟨?_,fun i hi=>(h.sub i hi).below hb⟩
 rcases h.row with h0|⟨b,o,h1,h2,h3⟩
 ·exact .inl h0
 ·exact .inr ⟨b,o,h1,Nat.lt_of_lt_of_le h2 hb.size,fun i hi t v hv=>(hb.cell (p:=⟨b,o+i * 6+t,none⟩) h2).trans (h3 i hi t v hv)⟩
theorem SqAt.get {w:World} {a:Option Addr} {xs:List SubV} (h:SqAt w a xs) {k:Nat} (hk:k<xs.length):∃ b o,a=some ⟨b,o,none⟩∧b<w.heap.size∧(xs[k]?.getD noSub).At w ∧
  w.cell? ⟨b,o+k * 6,none⟩=some (.int .i64 (xs[k]?.getD noSub).s0)∧w.cell? ⟨b,o+k * 6+1,none⟩=some (.int .i64 (xs[k]?.getD noSub).s1)∧w.cell? ⟨b,o+k * 6+2,none⟩=some (.int .i64 (xs[k]?.getD noSub).s2) ∧
  w.cell? ⟨b,o+k * 6+3,none⟩=some (.slice (xs[k]?.getD noSub).ra (xs[k]?.getD noSub).rs.length (xs[k]?.getD noSub).rc)∧w.cell? ⟨b,o+k * 6+4,none⟩=some (.slice (xs[k]?.getD noSub).sa (xs[k]?.getD noSub).ss.length (xs[k]?.getD noSub).sc)∧w.cell? ⟨b,o+k * 6+5,none⟩=some (.slice (xs[k]?.getD noSub).wa (xs[k]?.getD noSub).ws.length (xs[k]?.getD noSub).wc):=by
 rcases h.row with h0|⟨b,o,h1,h2,h3⟩
 ·rw [h0] at hk;simp at hk
 ·exact ⟨b,o,h1,h2,h.sub k hk,h3 k hk 0 _ rfl,h3 k hk 1 _ rfl,h3 k hk 2 _ rfl,h3 k hk 3 _ rfl,h3 k hk 4 _ rfl,h3 k hk 5 _ rfl⟩
end Go.Proofs.YtfbachckdadhoaaGreat.C
