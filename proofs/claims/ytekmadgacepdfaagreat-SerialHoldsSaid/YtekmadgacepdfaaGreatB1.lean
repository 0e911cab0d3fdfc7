/- Walks of span: Meet. -/
import Derived.Test.YtekmadgacepdfaaGreatB0
import Derived.Test.YtekmadgacepdfaaGreatNote
namespace Go.Proofs.YtekmadgacepdfaaGreat
set_option linter.unusedVariables false
set_option linter.unusedSimpArgs false
open Go.RowKit Fl

end Go.Proofs.YtekmadgacepdfaaGreat
