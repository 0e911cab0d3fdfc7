/- The walk of SpanForms. -/
import Derived.Test.YtgpkfgeflcdbcaaGreatMR
namespace Go.Proofs.YtgpkfgeflcdbcaaGreat
set_option linter.unusedVariables false
open Go.RowKit Fl

theorem refSpan_none' (w : World) : Calls Tryz.prog 84 #[.agg #[.int .u64 1, .int .u64 0]] w (Ret (spv none) w) := refSpan_none w
theorem refSpan_some' (l h : Key) (hlh : Hid (l.v ≤ h.v)) (w : World) : Calls Tryz.prog 84 #[.agg #[.int .u64 (kcode l), .int .u64 (kcode h)]] w (Ret (spv (some (l, h))) w) := refSpan_some l h hlh.out w
end Go.Proofs.YtgpkfgeflcdbcaaGreat
