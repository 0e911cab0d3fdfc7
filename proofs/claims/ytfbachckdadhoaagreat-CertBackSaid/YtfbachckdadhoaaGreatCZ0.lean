/- Small laws of a cert's answers. -/
import Derived.Test.YtfbachckdadhoaaGreatCX
import Derived.Test.YtfbachckdadhoaaGreatCV
import Derived.Test.YtfbachckdadhoaaGreatCU
import Derived.Test.YtfbachckdadhoaaGreatSQ
import Derived.Test.YtfbachckdadhoaaGreatDR
namespace Go.Proofs.YtfbachckdadhoaaGreat.C
set_option linter.unusedVariables false
open Go.RowKit Fl
set_option linter.unusedSimpArgs false

theorem chk_of_code {c:CL} {x:SubV} {k:Int} (h:codeD c x k=0):k=0:=by
 unfold codeD at h
 by_cases hk:k≠0
 ·rw [if_pos hk] at h;exact h
 ·exact Classical.byContradiction hk
theorem Inv.cnt {c:CL} {D:List RecV} {m:Nat} (h:Inv (CL.n c) (D.map RecV.n) m):c.count=(D.length:Int):=by
 have:=h.count
 rw [List.length_map] at this
 exact this
end Go.Proofs.YtfbachckdadhoaaGreat.C
