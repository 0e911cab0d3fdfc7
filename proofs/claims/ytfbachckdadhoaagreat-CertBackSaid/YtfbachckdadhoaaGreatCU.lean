/- The walk of CertPairs. -/
import Derived.Test.YtfbachckdadhoaaGreatMCQ
import Derived.Test.YtfbachckdadhoaaGreatMCE
namespace Go.Proofs.YtfbachckdadhoaaGreat.C
set_option linter.unusedVariables false
open Go.RowKit Fl
set_option linter.unusedSimpArgs false

theorem sub_old {w W:World} {x:SubV} {B T:Nat} {c:CL} {ow:Nat→Nat} (hx:x.At w) (hb:Below w.heap.size w W) (h:CAt B T c ow W) (hB:w.heap.size≤B):SubL (fun k=>ow k=0) x W:=by
 have z:∀ k,k<w.heap.size→ow k=0:=fun k hk=>Classical.byContradiction fun h0=>by have:=(h.low k h0).1;omega
 refine ⟨hx.below hb,fun h0 b o e=>?_,fun h0 b o e=>?_,fun h0 b o e=>?_⟩
 ·rcases hx.r.row with h4|⟨b',o',h5,h6,_⟩
  ·exact absurd h4 h0
  ·rw [e] at h5;cases h5;exact z b h6
 ·rcases hx.s.row with h4|⟨b',o',h5,h6,_⟩
  ·exact absurd h4 h0
  ·rw [e] at h5;cases h5;exact z b h6
 ·rcases hx.w.row with h4|⟨b',o',h5,h6,_⟩
  ·exact absurd h4 h0
  ·rw [e] at h5;cases h5;exact z b h6
def SubV.z (x:SubV):SubV:={ x with s2:=0 }
end Go.Proofs.YtfbachckdadhoaaGreat.C
