/- Contracts of span and of the document's ranges in one form each, without cases: the results by their parts. -/
import Derived.Test.YtibimhjbhincnaaB6
namespace Go.Proofs.Ytibimhjbhincnaa
set_option linter.unusedVariables false
open Go.RowKit Fl

attribute [go_sem] isNaN_slo isNaN_shi
theorem okR_meet (r r' : Rg) : okR (meetR r r') := by
  rcases e : meetR r r' with _ | ⟨l, h⟩
  · trivial
  · exact meetR_le e
theorem okR_join {r r' : Rg} (h : okR r) (h' : okR r') : okR (joinR r r').1 := by
  rcases r with _ | ⟨l, h1⟩
  · exact h'
  · rcases r' with _ | ⟨l', h1'⟩
    · exact h
    · simp only [joinR]
      split
      · trivial
      · split
        · trivial
        · simp only [okR, kLeast_v, kMost_v] at *; split <;> split <;> omega

theorem meetG (lo hi lo' hi' : Nat) (a b a' b' : Bool) (m : Rg) (w : World) (hl : lo < 2 ^ 64) (hh : hi < 2 ^ 64) (hl' : lo' < 2 ^ 64) (hh' : hi' < 2 ^ 64) (hm : Hid (meetR (canonS lo hi a b) (canonS lo' hi' a' b') = m)) :
    Calls Try.prog 41 #[.agg #[.float .f64 lo, .float .f64 hi, .bool a, .bool b], .agg #[.float .f64 lo', .float .f64 hi', .bool a', .bool b']] w (Ret (.agg #[.float .f64 (slo m), .float .f64 (shi m), .bool (sop m), .bool (sop m)]) w) := by
  have h := meet_any lo hi lo' hi' a b a' b' w hl hh hl' hh'
  rw [hm.out, spv_gen] at h
  exact h
theorem joinG (lo hi lo' hi' : Nat) (a b a' b' : Bool) (m : Rg) (ok : Bool) (w : World) (hl : lo < 2 ^ 64) (hh : hi < 2 ^ 64) (hl' : lo' < 2 ^ 64) (hh' : hi' < 2 ^ 64) (hm : Hid (joinR (canonS lo hi a b) (canonS lo' hi' a' b') = (m, ok))) :
    Calls Try.prog 45 #[.agg #[.float .f64 lo, .float .f64 hi, .bool a, .bool b], .agg #[.float .f64 lo', .float .f64 hi', .bool a', .bool b']] w
      (Ret (.tuple #[.agg #[.float .f64 (slo m), .float .f64 (shi m), .bool (sop m), .bool (sop m)], .bool ok]) w) := by
  have h := join_any lo hi lo' hi' a b a' b' w hl hh hl' hh'
  rw [hm.out, spv_gen] at h
  exact h
theorem refMeetG (r r' m : Rg) (w : World) (hm : Hid (meetR r r' = m)) :
    Calls Try.prog 42 #[.agg #[.int .u64 (rlo r), .int .u64 (rhi r)], .agg #[.int .u64 (rlo r'), .int .u64 (rhi r')]] w (Ret (.agg #[.int .u64 (rlo m), .int .u64 (rhi m)]) w) := by
  have hm' := hm.out
  subst hm'
  rcases r with _ | ⟨l, h⟩ <;> rcases r' with _ | ⟨l', h'⟩
  · exact refMeet_nn w
  · exact refMeet_ns l' h' w
  · exact refMeet_sn l h w
  · rw [meetR_ss]
    split
    · exact refMeet_ssN l h l' h' w (by assumption)
    · exact refMeet_ssS l h l' h' w (by assumption)
theorem refJoinG (r r' m : Rg) (ok : Bool) (w : World) (h1 : Hid (okR r)) (h2 : Hid (okR r')) (hm : Hid (joinR r r' = (m, ok))) :
    Calls Try.prog 46 #[.agg #[.int .u64 (rlo r), .int .u64 (rhi r)], .agg #[.int .u64 (rlo r'), .int .u64 (rhi r')]] w (Ret (.tuple #[.agg #[.int .u64 (rlo m), .int .u64 (rhi m)], .bool ok]) w) := by
  have hm' := hm.out
  have e1 : (joinR r r').1 = m := by rw [hm']
  have e2 : (joinR r r').2 = ok := by rw [hm']
  subst e1; subst e2
  rcases r with _ | ⟨l, h⟩ <;> rcases r' with _ | ⟨l', h'⟩
  · exact refJoin_nn w
  · exact refJoin_ns l' h' h2 w
  · exact refJoin_sn l h h1 w
  · simp only [joinR]
    cases N1 : decide (rnext h < kcode l')
    · have F1 : flt (knext h).bits l'.bits = false := by rw [← rnext_lt]; exact N1
      rw [F1]
      cases N2 : decide (rnext h' < kcode l)
      · have F2 : flt (knext h').bits l.bits = false := by rw [← rnext_lt]; exact N2
        rw [F2]
        have a1 := kcode_lt l' l; have a2 := kcode_lt h h'
        cases T1 : decide (kcode l' < kcode l) <;> cases T2 : decide (kcode h < kcode h')
        · have g1 : kLeast l l' = l := by unfold kLeast; rw [if_neg (by simp at T1; omega)]
          have g2 : kMost h h' = h := by unfold kMost; rw [if_neg (by simp at T2; omega)]
          simp only [g1, g2, Bool.false_eq_true, if_false]
          exact refJoin_ssC00 l h h1 l' h' h2 N1 N2 T1 T2 w
        · have g1 : kLeast l l' = l := by unfold kLeast; rw [if_neg (by simp at T1; omega)]
          have g2 : kMost h h' = h' := by unfold kMost; rw [if_pos (by simp at T2; omega)]
          simp only [g1, g2, Bool.false_eq_true, if_false]
          exact refJoin_ssC01 l h h1 l' h' h2 N1 N2 T1 T2 w
        · have g1 : kLeast l l' = l' := by unfold kLeast; rw [if_pos (by simp at T1; omega)]
          have g2 : kMost h h' = h := by unfold kMost; rw [if_neg (by simp at T2; omega)]
          simp only [g1, g2, Bool.false_eq_true, if_false]
          exact refJoin_ssC10 l h h1 l' h' h2 N1 N2 T1 T2 w
        · have g1 : kLeast l l' = l' := by unfold kLeast; rw [if_pos (by simp at T1; omega)]
          have g2 : kMost h h' = h' := by unfold kMost; rw [if_pos (by simp at T2; omega)]
          simp only [g1, g2, Bool.false_eq_true, if_false]
          exact refJoin_ssC11 l h h1 l' h' h2 N1 N2 T1 T2 w
      · have F2 : flt (knext h').bits l.bits = true := by rw [← rnext_lt]; exact N2
        rw [F2]
        exact refJoin_ssB l h h1 l' h' h2 N1 N2 w
    · have F1 : flt (knext h).bits l'.bits = true := by rw [← rnext_lt]; exact N1
      rw [F1]
      exact refJoin_ssA l h h1 l' h' h2 N1 w
end Go.Proofs.Ytibimhjbhincnaa
