/- Several texts as one: LForms LHas. -/
import Derived.Test.YtfbachckdadhoaaGreatMR
namespace Go.Proofs.YtfbachckdadhoaaGreat
set_option linter.unusedVariables false
open Go.RowKit Fl

theorem refSpan_none' (w : World) : Calls Tryz.prog 68 #[.agg #[.int .u64 1, .int .u64 0]] w (Ret (spv none) w) := refSpan_none w
theorem refSpan_some' (l h : Key) (hlh : Hid (l.v ≤ h.v)) (w : World) : Calls Tryz.prog 68 #[.agg #[.int .u64 (kcode l), .int .u64 (kcode h)]] w (Ret (spv (some (l, h))) w) := refSpan_some l h hlh.out w
end Go.Proofs.YtfbachckdadhoaaGreat
namespace Go.Proofs.YtfbachckdadhoaaGreat
set_option linter.unusedVariables false
open Go.RowKit Fl

theorem flt_lits (a b : Nat) (ha : a ≤ inf) (hb : b ≤ inf) : flt a b = decide (a < b) := by
 have e1 := klit_bits a ha
 have e2 := klit_bits b hb
 rw [← e1, ← e2, flt_kk, e1, e2]
 apply decide_eq_decide.2
 unfold klit; simp only; omega

theorem has_one (w : World) :
  Calls Tryz.prog 181 #[.agg #[.float .f64 4607182418800017408, .float .f64 4611686018427387904, .bool false, .bool false], .float .f64 4607182418800017408] w (Ret (.bool true) w) := by
 refine has_is _ _ _ _ _ _ _ (by omega) (by omega) ?_
 show _ = _
 rw [has_plain, feq_lit 4607182418800017408 (by unfold inf; omega), flt_lits 4607182418800017408 4611686018427387904 (by unfold inf; omega) (by unfold inf; omega)]
 simp

theorem refHas_S (l h : Key) (key : Nat) (v : Bool) (w : World) (hk : key < 2 ^ 64) (hv : Hid (hasB (some (l, h)) key = v)) :
  Calls Tryz.prog 93 #[.agg #[.int .u64 (kcode l), .int .u64 (kcode h)], .float .f64 key] w (Ret (.bool v) w) := refHas_is (some (l, h)) key v w hk hv
theorem refHas_N (key : Nat) (v : Bool) (w : World) (hk : key < 2 ^ 64) (hv : Hid (hasB none key = v)) :
  Calls Tryz.prog 93 #[.agg #[.int .u64 1, .int .u64 0], .float .f64 key] w (Ret (.bool v) w) := refHas_is none key v w hk hv

theorem feq_comm (a b : Nat) : feq a b = feq b a := by
 unfold feq
 cases isNaN a <;> cases isNaN b <;> simp
 exact ⟨fun h => h.symm, fun h => h.symm⟩

end Go.Proofs.YtfbachckdadhoaaGreat
