/- The walk of SpanForms. -/
import Derived.Test.YtekmadgacepdfaaGreatMR
namespace Go.Proofs.YtekmadgacepdfaaGreat
set_option linter.unusedVariables false
open Go.RowKit Fl

end Go.Proofs.YtekmadgacepdfaaGreat
