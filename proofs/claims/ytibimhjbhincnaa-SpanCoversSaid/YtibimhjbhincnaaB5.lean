/- Plain laws of meeting and joining: the codes' answers are the keys'. -/
import Derived.Test.YtibimhjbhincnaaB4
import Derived.Test.YtibimhjbhincnaaR8
namespace Go.Proofs.Ytibimhjbhincnaa
set_option linter.unusedVariables false
open Go.RowKit Fl

theorem kMost_v (k l : Key) : (kMost k l).v = if k.v < l.v then l.v else k.v := by unfold kMost; split <;> rfl
theorem kLeast_v (k l : Key) : (kLeast k l).v = if l.v < k.v then l.v else k.v := by unfold kLeast; split <;> rfl

theorem meetR_ss (l h l' h' : Key) : meetR (some (l, h)) (some (l', h')) = if (kLeast h h').v < (kMost l l').v then none else some (kMost l l', kLeast h h') := by
  show canonS (kMost l l').bits (kLeast h h').bits false false = _
  split
  · refine canonS_none ?_
    rw [Key.kof_bits, Key.kof_bits]; simp; omega
  · exact canonS_canon _ _ (by omega)

theorem rnext_lt (h l : Key) : decide (rnext h < kcode l) = flt (knext h).bits l.bits := by
  rw [flt_kk]
  have a1 := h.lo; have a2 := h.hi; have b1 := l.lo; have b2 := l.hi
  apply decide_eq_decide.2
  by_cases ht : h.v = (inf : Int)
  · have e : knext h = h := by simp [knext, ht]
    rw [e]
    have : kcode h + 1 ≤ rnext h := by unfold rnext; split <;> omega
    have := kcode_lt h l
    omega
  · have e := knext_v ht
    rw [e]
    have e2 : rnext h = kcode (knext h) := by
      unfold rnext
      by_cases hz : h.v = -1
      · rw [if_neg (by unfold isCode kcode; rw [if_neg (by omega)]; simp; omega)]
        unfold kcode; rw [if_neg (by omega), if_pos (by omega), e]; omega
      · have : kcode h + 1 = kcode (knext h) := by unfold kcode; rw [e]; split <;> split <;> omega
        rw [this, if_pos (isCode_key _)]
    rw [e2, kcode_lt, e]
end Go.Proofs.Ytibimhjbhincnaa
