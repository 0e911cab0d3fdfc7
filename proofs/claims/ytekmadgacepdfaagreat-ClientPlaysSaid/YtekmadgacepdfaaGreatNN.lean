/- span.Norm, in the document's words. -/
import Derived.Test.YtekmadgacepdfaaGreatMN
import Derived.Test.YtekmadgacepdfaaGreatNS
namespace Go.Proofs.YtekmadgacepdfaaGreat.N
set_option linter.unusedVariables false
open Go.RowKit Fl

theorem norm_any (a : Option Addr) (c : Nat) (ss : List SpanV) (n : Nat) (w : World) (hn : ss.length = n) (h : SAt w a ss) (hlen : n ≤ 5864062014634) :
  Calls Tryz.prog 69 #[.slice a n c] w (NormRet w (joinAll [] (sortK (forms ss)))) :=
 norm_of sortK sortK_len sortK_rises sort_forms a c ss n w hn h hlen
theorem norm_ref (ss : List SpanV) : joinAll [] (sortK (forms ss)) = refAllN [] (forms ss) := norm_same (sortK_mem _) (sortK_rises _)
theorem norm_any' (a : Option Addr) (c : Nat) (ss : List SpanV) (n : Nat) (w : World) (hn : ss.length = n) (h : SAt w a ss) (hlen : n ≤ 5864062014634) :
  Calls Tryz.prog 69 #[.slice a n c] w (NormRet w (refAllN [] (forms ss))) := by
 rw [← norm_ref]; exact norm_any a c ss n w hn h hlen
end Go.Proofs.YtekmadgacepdfaaGreat.N
