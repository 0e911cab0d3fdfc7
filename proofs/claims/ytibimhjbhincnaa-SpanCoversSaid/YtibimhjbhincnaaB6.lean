/- Contracts of joining and meeting whose results are written out. -/
import Derived.Test.YtibimhjbhincnaaB5
namespace Go.Proofs.Ytibimhjbhincnaa
set_option linter.unusedVariables false
open Go.RowKit Fl

theorem join_isN (lo hi lo' hi' : Nat) (a b a' b' ok : Bool) (w : World) (hl : lo < 2 ^ 64) (hh : hi < 2 ^ 64) (hl' : lo' < 2 ^ 64) (hh' : hi' < 2 ^ 64) (hj : Hid (joinR (canonS lo hi a b) (canonS lo' hi' a' b') = (none, ok))) :
    Calls Try.prog 45 #[.agg #[.float .f64 lo, .float .f64 hi, .bool a, .bool b], .agg #[.float .f64 lo', .float .f64 hi', .bool a', .bool b']] w
      (Ret (.tuple #[.agg #[.float .f64 0, .float .f64 0, .bool true, .bool true], .bool ok]) w) := by
  have h := join_any lo hi lo' hi' a b a' b' w hl hh hl' hh'
  rw [hj.out] at h
  exact h
theorem join_isS (lo hi lo' hi' : Nat) (a b a' b' : Bool) (l2 h2 : Key) (ok : Bool) (w : World) (hl : lo < 2 ^ 64) (hh : hi < 2 ^ 64) (hl' : lo' < 2 ^ 64) (hh' : hi' < 2 ^ 64) (hj : Hid (joinR (canonS lo hi a b) (canonS lo' hi' a' b') = (some (l2, h2), ok))) :
    Calls Try.prog 45 #[.agg #[.float .f64 lo, .float .f64 hi, .bool a, .bool b], .agg #[.float .f64 lo', .float .f64 hi', .bool a', .bool b']] w
      (Ret (.tuple #[.agg #[.float .f64 l2.bits, .float .f64 h2.bits, .bool false, .bool false], .bool ok]) w) := by
  have h := join_any lo hi lo' hi' a b a' b' w hl hh hl' hh'
  rw [hj.out] at h
  exact h
theorem apart_is (lo hi lo' hi' : Nat) (a b a' b' v : Bool) (w : World) (hl : lo < 2 ^ 64) (hh : hi < 2 ^ 64) (hl' : lo' < 2 ^ 64) (hh' : hi' < 2 ^ 64) (hv : Hid ((meetR (canonS lo hi a b) (canonS lo' hi' a' b')).isNone = v)) :
    Calls Try.prog 43 #[.agg #[.float .f64 lo, .float .f64 hi, .bool a, .bool b], .agg #[.float .f64 lo', .float .f64 hi', .bool a', .bool b']] w (Ret (.bool v) w) := by
  have h := apart_any lo hi lo' hi' a b a' b' w hl hh hl' hh'
  rw [hv.out] at h
  exact h
theorem within_is (lo hi lo' hi' : Nat) (a b a' b' v : Bool) (w : World) (hl : lo < 2 ^ 64) (hh : hi < 2 ^ 64) (hl' : lo' < 2 ^ 64) (hh' : hi' < 2 ^ 64) (hv : Hid (withinB (meetR (canonS lo hi a b) (canonS lo' hi' a' b')) (canonS lo hi a b) = v)) :
    Calls Try.prog 44 #[.agg #[.float .f64 lo, .float .f64 hi, .bool a, .bool b], .agg #[.float .f64 lo', .float .f64 hi', .bool a', .bool b']] w (Ret (.bool v) w) := by
  have h := within_any lo hi lo' hi' a b a' b' w hl hh hl' hh'
  rw [hv.out] at h
  exact h

/-- The document's range of a span's keys, met. -/
theorem refMeet_ssN (l h l' h' : Key) (w : World) (hm : (kLeast h h').v < (kMost l l').v) :
    Calls Try.prog 42 #[.agg #[.int .u64 (kcode l), .int .u64 (kcode h)], .agg #[.int .u64 (kcode l'), .int .u64 (kcode h')]] w (Ret (.agg #[.int .u64 1, .int .u64 0]) w) := by
  have e1 := kcode_lt l l'; have e2 := kcode_lt h' h
  have f := fun (x y : Key) => kcode_lt x y
  rw [kMost_v, kLeast_v] at hm
  cases T1 : decide (kcode l < kcode l') <;> cases T2 : decide (kcode h' < kcode h) <;> simp only [decide_eq_true_eq, decide_eq_false_iff_not] at T1 T2
  · rw [e1] at T1; rw [e2] at T2; rw [if_neg T1, if_neg T2] at hm
    exact refMeet_001 _ _ _ _ w (by simpa [e1] using T1) (by simpa [e2] using T2) (by simpa [f] using hm)
  · rw [e1] at T1; rw [e2] at T2; rw [if_neg T1, if_pos T2] at hm
    exact refMeet_011 _ _ _ _ w (by simpa [e1] using T1) (by simpa [e2] using T2) (by simpa [f] using hm)
  · rw [e1] at T1; rw [e2] at T2; rw [if_pos T1, if_neg T2] at hm
    exact refMeet_101 _ _ _ _ w (by simpa [e1] using T1) (by simpa [e2] using T2) (by simpa [f] using hm)
  · rw [e1] at T1; rw [e2] at T2; rw [if_pos T1, if_pos T2] at hm
    exact refMeet_111 _ _ _ _ w (by simpa [e1] using T1) (by simpa [e2] using T2) (by simpa [f] using hm)
theorem refMeet_ssS (l h l' h' : Key) (w : World) (hm : ¬ (kLeast h h').v < (kMost l l').v) :
    Calls Try.prog 42 #[.agg #[.int .u64 (kcode l), .int .u64 (kcode h)], .agg #[.int .u64 (kcode l'), .int .u64 (kcode h')]] w (Ret (.agg #[.int .u64 (kcode (kMost l l')), .int .u64 (kcode (kLeast h h'))]) w) := by
  have e1 := kcode_lt l l'; have e2 := kcode_lt h' h
  have f := fun (x y : Key) => kcode_lt x y
  rw [kMost_v, kLeast_v] at hm
  unfold kMost kLeast
  cases T1 : decide (kcode l < kcode l') <;> cases T2 : decide (kcode h' < kcode h) <;> simp only [decide_eq_true_eq, decide_eq_false_iff_not] at T1 T2
  · rw [e1] at T1; rw [e2] at T2; rw [if_neg T1, if_neg T2] at hm ⊢
    exact refMeet_000 _ _ _ _ w (by simpa [e1] using T1) (by simpa [e2] using T2) (by simpa [f] using hm)
  · rw [e1] at T1; rw [e2] at T2; rw [if_neg T1, if_pos T2] at hm ⊢
    exact refMeet_010 _ _ _ _ w (by simpa [e1] using T1) (by simpa [e2] using T2) (by simpa [f] using hm)
  · rw [e1] at T1; rw [e2] at T2; rw [if_pos T1, if_neg T2] at hm ⊢
    exact refMeet_100 _ _ _ _ w (by simpa [e1] using T1) (by simpa [e2] using T2) (by simpa [f] using hm)
  · rw [e1] at T1; rw [e2] at T2; rw [if_pos T1, if_pos T2] at hm ⊢
    exact refMeet_110 _ _ _ _ w (by simpa [e1] using T1) (by simpa [e2] using T2) (by simpa [f] using hm)

theorem refMeet_nn (w : World) :
    Calls Try.prog 42 #[.agg #[.int .u64 1, .int .u64 0], .agg #[.int .u64 1, .int .u64 0]] w (Ret (.agg #[.int .u64 1, .int .u64 0]) w) :=
  refMeet_001 1 0 1 0 w (by decide) (by decide) (by decide)
theorem refMeet_ns (l' h' : Key) (w : World) :
    Calls Try.prog 42 #[.agg #[.int .u64 1, .int .u64 0], .agg #[.int .u64 (kcode l'), .int .u64 (kcode h')]] w (Ret (.agg #[.int .u64 1, .int .u64 0]) w) := by
  have a1 := kcode_lo l'; have a2 := kcode_lo h'
  exact refMeet_101 1 0 _ _ w (by simp; omega) (by simp; omega) (by simp; omega)
theorem refMeet_sn (l h : Key) (w : World) :
    Calls Try.prog 42 #[.agg #[.int .u64 (kcode l), .int .u64 (kcode h)], .agg #[.int .u64 1, .int .u64 0]] w (Ret (.agg #[.int .u64 1, .int .u64 0]) w) := by
  have a1 := kcode_lo l; have a2 := kcode_lo h
  exact refMeet_011 _ _ 1 0 w (by simp; omega) (by simp; omega) (by simp; omega)
end Go.Proofs.Ytibimhjbhincnaa
