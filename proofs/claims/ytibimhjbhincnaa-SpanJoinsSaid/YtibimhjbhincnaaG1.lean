/- Contracts of span and of the document's ranges in one form each, without cases: the results by their parts. -/
import Derived.Test.YtibimhjbhincnaaB6
namespace Go.Proofs.Ytibimhjbhincnaa
set_option linter.unusedVariables false
open Go.RowKit Fl

/-- The parts of a form, and of the document's range. -/
def slo : Rg → Nat | none => 0 | some (l, _) => l.bits
def shi : Rg → Nat | none => 0 | some (_, h) => h.bits
def sop : Rg → Bool | none => true | some _ => false
def rlo : Rg → Int | none => 1 | some (l, _) => kcode l
def rhi : Rg → Int | none => 0 | some (_, h) => kcode h
/-- The keys rise. -/
def okR : Rg → Prop | none => True | some (l, h) => l.v ≤ h.v

theorem spv_gen (r : Rg) : spv r = .agg #[.float .f64 (slo r), .float .f64 (shi r), .bool (sop r), .bool (sop r)] := by rcases r with _ | ⟨l, h⟩ <;> rfl
theorem slo_lt (r : Rg) : slo r < 2 ^ 64 := by
  rcases r with _ | ⟨l, h⟩
  · exact Nat.two_pow_pos 64
  · exact Key.bits_lt l
theorem shi_lt (r : Rg) : shi r < 2 ^ 64 := by
  rcases r with _ | ⟨l, h⟩
  · exact Nat.two_pow_pos 64
  · exact Key.bits_lt h
theorem feq_slo (r : Rg) : feq (slo r) (slo r) = true := by
  rw [feq_self]; rcases r with _ | ⟨l, h⟩
  · exact feq_self 0 ▸ feq_lit 0 (by unfold inf; omega)
  · simp [slo, Key.bits_nan]
theorem feq_shi (r : Rg) : feq (shi r) (shi r) = true := by
  rw [feq_self]; rcases r with _ | ⟨l, h⟩
  · exact feq_self 0 ▸ feq_lit 0 (by unfold inf; omega)
  · simp [shi, Key.bits_nan]
theorem isNaN_slo (r : Rg) : isNaN (slo r) = false := by have := feq_slo r; rw [feq_self] at this; simpa using this
theorem isNaN_shi (r : Rg) : isNaN (shi r) = false := by have := feq_shi r; rw [feq_self] at this; simpa using this
attribute [go_sem] isNaN_slo isNaN_shi
theorem okR_canon (lo hi : Nat) (a b : Bool) : okR (canonS lo hi a b) := by
  rcases e : canonS lo hi a b with _ | ⟨l, h⟩
  · trivial
  · exact canonS_le e
theorem canonS_gen {r : Rg} (ok : okR r) : canonS (slo r) (shi r) (sop r) (sop r) = r := by
  rcases r with _ | ⟨l, h⟩
  · exact canonS_empty
  · exact canonS_canon l h ok
theorem okR_meet (r r' : Rg) : okR (meetR r r') := by
  rcases e : meetR r r' with _ | ⟨l, h⟩
  · trivial
  · exact meetR_le e
theorem okR_join {r r' : Rg} (h : okR r) (h' : okR r') : okR (joinR r r').1 := by
  rcases r with _ | ⟨l, h1⟩
  · exact h'
  · rcases r' with _ | ⟨l', h1'⟩
    · exact h
    · simp only [joinR]
      split
      · trivial
      · split
        · trivial
        · simp only [okR, kLeast_v, kMost_v] at *; split <;> split <;> omega

theorem canonG (lo hi : Nat) (a b : Bool) (r : Rg) (w : World) (hl : lo < 2 ^ 64) (hh : hi < 2 ^ 64) (hr : Hid (canonS lo hi a b = r)) :
    Calls Try.prog 18 #[.agg #[.float .f64 lo, .float .f64 hi, .bool a, .bool b]] w (Ret (.agg #[.float .f64 (slo r), .float .f64 (shi r), .bool (sop r), .bool (sop r)]) w) := by
  have h := canon_any lo hi a b w hl hh
  rw [hr.out, spv_gen] at h
  exact h
theorem meetG (lo hi lo' hi' : Nat) (a b a' b' : Bool) (m : Rg) (w : World) (hl : lo < 2 ^ 64) (hh : hi < 2 ^ 64) (hl' : lo' < 2 ^ 64) (hh' : hi' < 2 ^ 64) (hm : Hid (meetR (canonS lo hi a b) (canonS lo' hi' a' b') = m)) :
    Calls Try.prog 41 #[.agg #[.float .f64 lo, .float .f64 hi, .bool a, .bool b], .agg #[.float .f64 lo', .float .f64 hi', .bool a', .bool b']] w (Ret (.agg #[.float .f64 (slo m), .float .f64 (shi m), .bool (sop m), .bool (sop m)]) w) := by
  have h := meet_any lo hi lo' hi' a b a' b' w hl hh hl' hh'
  rw [hm.out, spv_gen] at h
  exact h
theorem joinG (lo hi lo' hi' : Nat) (a b a' b' : Bool) (m : Rg) (ok : Bool) (w : World) (hl : lo < 2 ^ 64) (hh : hi < 2 ^ 64) (hl' : lo' < 2 ^ 64) (hh' : hi' < 2 ^ 64) (hm : Hid (joinR (canonS lo hi a b) (canonS lo' hi' a' b') = (m, ok))) :
    Calls Try.prog 45 #[.agg #[.float .f64 lo, .float .f64 hi, .bool a, .bool b], .agg #[.float .f64 lo', .float .f64 hi', .bool a', .bool b']] w
      (Ret (.tuple #[.agg #[.float .f64 (slo m), .float .f64 (shi m), .bool (sop m), .bool (sop m)], .bool ok]) w) := by
  have h := join_any lo hi lo' hi' a b a' b' w hl hh hl' hh'
  rw [hm.out, spv_gen] at h
  exact h
theorem refOfG (lo hi : Nat) (a b : Bool) (r : Rg) (w : World) (hl : lo < 2 ^ 64) (hh : hi < 2 ^ 64) (hr : Hid (canonS lo hi a b = r)) :
    Calls Try.prog 16 #[.agg #[.float .f64 lo, .float .f64 hi, .bool a, .bool b]] w (Ret (.agg #[.int .u64 (rlo r), .int .u64 (rhi r)]) w) := by
  have h := refOf_is lo hi a b r w hl hh hr
  rcases r with _ | ⟨l, h'⟩ <;> exact h
theorem refEmptyG (r : Rg) (v : Bool) (w : World) (ok : Hid (okR r)) (hv : Hid (r.isNone = v)) :
    Calls Try.prog 21 #[.agg #[.int .u64 (rlo r), .int .u64 (rhi r)]] w (Ret (.bool v) w) := by
  have hv' := hv.out
  subst hv'
  rcases r with _ | ⟨l, h⟩
  · exact refEmpty_none w
  · exact refEmpty_some l h ok w
theorem refSpanG (r : Rg) (w : World) (ok : Hid (okR r)) :
    Calls Try.prog 19 #[.agg #[.int .u64 (rlo r), .int .u64 (rhi r)]] w (Ret (.agg #[.float .f64 (slo r), .float .f64 (shi r), .bool (sop r), .bool (sop r)]) w) := by
  rw [← spv_gen]
  rcases r with _ | ⟨l, h⟩
  · exact refSpan_none w
  · exact refSpan_some l h ok.out w
theorem refMeetG (r r' m : Rg) (w : World) (hm : Hid (meetR r r' = m)) :
    Calls Try.prog 42 #[.agg #[.int .u64 (rlo r), .int .u64 (rhi r)], .agg #[.int .u64 (rlo r'), .int .u64 (rhi r')]] w (Ret (.agg #[.int .u64 (rlo m), .int .u64 (rhi m)]) w) := by
  have hm' := hm.out
  subst hm'
  rcases r with _ | ⟨l, h⟩ <;> rcases r' with _ | ⟨l', h'⟩
  · exact refMeet_nn w
  · exact refMeet_ns l' h' w
  · exact refMeet_sn l h w
  · rw [meetR_ss]
    split
    · exact refMeet_ssN l h l' h' w (by assumption)
    · exact refMeet_ssS l h l' h' w (by assumption)
theorem refJoinG (r r' m : Rg) (ok : Bool) (w : World) (h1 : Hid (okR r)) (h2 : Hid (okR r')) (hm : Hid (joinR r r' = (m, ok))) :
    Calls Try.prog 46 #[.agg #[.int .u64 (rlo r), .int .u64 (rhi r)], .agg #[.int .u64 (rlo r'), .int .u64 (rhi r')]] w (Ret (.tuple #[.agg #[.int .u64 (rlo m), .int .u64 (rhi m)], .bool ok]) w) := by
  have hm' := hm.out
  have e1 : (joinR r r').1 = m := by rw [hm']
  have e2 : (joinR r r').2 = ok := by rw [hm']
  subst e1; subst e2
  rcases r with _ | ⟨l, h⟩ <;> rcases r' with _ | ⟨l', h'⟩
  · exact refJoin_nn w
  · exact refJoin_ns l' h' h2 w
  · exact refJoin_sn l h h1 w
  · simp only [joinR]
    cases N1 : decide (rnext h < kcode l')
    · have F1 : flt (knext h).bits l'.bits = false := by rw [← rnext_lt]; exact N1
      rw [F1]
      cases N2 : decide (rnext h' < kcode l)
      · have F2 : flt (knext h').bits l.bits = false := by rw [← rnext_lt]; exact N2
        rw [F2]
        have a1 := kcode_lt l' l; have a2 := kcode_lt h h'
        cases T1 : decide (kcode l' < kcode l) <;> cases T2 : decide (kcode h < kcode h')
        · have g1 : kLeast l l' = l := by unfold kLeast; rw [if_neg (by simp at T1; omega)]
          have g2 : kMost h h' = h := by unfold kMost; rw [if_neg (by simp at T2; omega)]
          simp only [g1, g2, Bool.false_eq_true, if_false]
          exact refJoin_ssC00 l h h1 l' h' h2 N1 N2 T1 T2 w
        · have g1 : kLeast l l' = l := by unfold kLeast; rw [if_neg (by simp at T1; omega)]
          have g2 : kMost h h' = h' := by unfold kMost; rw [if_pos (by simp at T2; omega)]
          simp only [g1, g2, Bool.false_eq_true, if_false]
          exact refJoin_ssC01 l h h1 l' h' h2 N1 N2 T1 T2 w
        · have g1 : kLeast l l' = l' := by unfold kLeast; rw [if_pos (by simp at T1; omega)]
          have g2 : kMost h h' = h := by unfold kMost; rw [if_neg (by simp at T2; omega)]
          simp only [g1, g2, Bool.false_eq_true, if_false]
          exact refJoin_ssC10 l h h1 l' h' h2 N1 N2 T1 T2 w
        · have g1 : kLeast l l' = l' := by unfold kLeast; rw [if_pos (by simp at T1; omega)]
          have g2 : kMost h h' = h' := by unfold kMost; rw [if_pos (by simp at T2; omega)]
          simp only [g1, g2, Bool.false_eq_true, if_false]
          exact refJoin_ssC11 l h h1 l' h' h2 N1 N2 T1 T2 w
      · have F2 : flt (knext h').bits l.bits = true := by rw [← rnext_lt]; exact N2
        rw [F2]
        exact refJoin_ssB l h h1 l' h' h2 N1 N2 w
    · have F1 : flt (knext h).bits l'.bits = true := by rw [← rnext_lt]; exact N1
      rw [F1]
      exact refJoin_ssA l h h1 l' h' h2 N1 w
theorem sameSpanG (r : Rg) (w : World) :
    Calls Try.prog 17 #[.agg #[.float .f64 (slo r), .float .f64 (shi r), .bool (sop r), .bool (sop r)], .agg #[.float .f64 (slo r), .float .f64 (shi r), .bool (sop r), .bool (sop r)]] w (Ret (.bool true) w) :=
  sameSpan_refl _ _ _ _ w
end Go.Proofs.Ytibimhjbhincnaa
