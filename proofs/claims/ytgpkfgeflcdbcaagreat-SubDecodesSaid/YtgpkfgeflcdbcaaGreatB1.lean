/- Walks of span: Meet. -/
import Derived.Test.YtgpkfgeflcdbcaaGreatB0
import Derived.Test.YtgpkfgeflcdbcaaGreatNote
namespace Go.Proofs.YtgpkfgeflcdbcaaGreat
set_option linter.unusedVariables false
set_option linter.unusedSimpArgs false
open Go.RowKit Fl

/-- The keys of both. -/
def meetR : Rg → Rg → Rg
  | some (l, h), some (l', h') => canonS (kMost l l').bits (kLeast h h').bits false false
  | _, _ => none

end Go.Proofs.YtgpkfgeflcdbcaaGreat
