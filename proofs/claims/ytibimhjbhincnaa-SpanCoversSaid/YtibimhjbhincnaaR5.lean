/- Walks of the references' Has, next. -/
import Derived.Test.YtibimhjbhincnaaR4
namespace Go.Proofs.Ytibimhjbhincnaa
set_option linter.unusedVariables false
open Go.RowKit Fl

def inRange (x y : Int) (key : Nat) : Bool := !isNaN key && decide (x ≤ codeOf key) && decide (codeOf key ≤ y)

theorem refHas_any (x y : Int) (key : Nat) (w : World) (hk : key < 2 ^ 64) :
    Calls Try.prog 26 #[.agg #[.int .u64 x, .int .u64 y], .float .f64 key] w (Ret (.bool (inRange x y key)) w) := by
  cases hn : isNaN key
  · by_cases h1 : x ≤ codeOf key
    · go_enter Try.func26, Try.ntmps26
      go_wp2_with (first | (go_at_call 53; (with_reducible refine (refCode_any _ hk _).mono ?_); rintro e w' ⟨rfl, rfl⟩) | (go_at_call 23; (with_reducible refine (refNan_any _ hk _).mono ?_); rintro e w' ⟨rfl, rfl⟩))
      go_ret
      exact ⟨ret_bool (by simp [inRange, hn, h1]), by (repeat (first | with_reducible exact Below.refl _ _ | ((with_reducible refine Below.alloc1 ?_ ?_ _); (· first | omega | (simp; done) | (simp; omega))) | (with_reducible refine Below.drew ?_) | (with_reducible refine below_drewN' ?_ _) | ((with_reducible refine Below.setCell1 ?_ ?_ _); (· first | omega | (simp; done) | (simp; omega))) | ((with_reducible refine Below.after (by assumption) ?_ ?_); (· first | omega | (simp; done) | (simp; omega)))))⟩
    · have h1' : decide (x ≤ codeOf key) = false := by simpa using h1
      go_enter Try.func26, Try.ntmps26
      go_wp2_with (first | (go_at_call 53; (with_reducible refine (refCode_any _ hk _).mono ?_); rintro e w' ⟨rfl, rfl⟩) | (go_at_call 23; (with_reducible refine (refNan_any _ hk _).mono ?_); rintro e w' ⟨rfl, rfl⟩))
      go_ret
      exact ⟨ret_bool (by simp [inRange, h1']), by (repeat (first | with_reducible exact Below.refl _ _ | ((with_reducible refine Below.alloc1 ?_ ?_ _); (· first | omega | (simp; done) | (simp; omega))) | (with_reducible refine Below.drew ?_) | (with_reducible refine below_drewN' ?_ _) | ((with_reducible refine Below.setCell1 ?_ ?_ _); (· first | omega | (simp; done) | (simp; omega))) | ((with_reducible refine Below.after (by assumption) ?_ ?_); (· first | omega | (simp; done) | (simp; omega)))))⟩
  · go_enter Try.func26, Try.ntmps26
    go_wp2_with (first | (go_at_call 53; (with_reducible refine (refCode_any _ hk _).mono ?_); rintro e w' ⟨rfl, rfl⟩) | (go_at_call 23; (with_reducible refine (refNan_any _ hk _).mono ?_); rintro e w' ⟨rfl, rfl⟩))
    go_ret
    exact ⟨ret_bool (by simp [inRange, hn]), by (repeat (first | with_reducible exact Below.refl _ _ | ((with_reducible refine Below.alloc1 ?_ ?_ _); (· first | omega | (simp; done) | (simp; omega))) | (with_reducible refine Below.drew ?_) | (with_reducible refine below_drewN' ?_ _) | ((with_reducible refine Below.setCell1 ?_ ?_ _); (· first | omega | (simp; done) | (simp; omega))) | ((with_reducible refine Below.after (by assumption) ?_ ?_); (· first | omega | (simp; done) | (simp; omega)))))⟩

theorem hasB_some (l h : Key) (key : Nat) : hasB (some (l, h)) key = (!isNaN key && decide (l.v ≤ (kof key).v) && decide ((kof key).v ≤ h.v)) := by
  simp only [hasB, fle, Key.bits_nan, Key.kof_bits]
  cases isNaN key <;> simp

theorem inRange_none (key : Nat) : inRange 1 0 key = false := by
  unfold inRange
  cases isNaN key
  · simp; omega
  · simp
theorem inRange_some (l h : Key) (key : Nat) : inRange (kcode l) (kcode h) key = hasB (some (l, h)) key := by
  rw [hasB_some]
  unfold inRange codeOf
  cases isNaN key
  · have e1 : ∀ a b : Key, (kcode a ≤ kcode b) ↔ a.v ≤ b.v := fun a b => by have := kcode_lt b a; omega
    simp [e1]
  · simp

theorem refHas_rg (r : Rg) (key : Nat) (w : World) (hk : key < 2 ^ 64) :
    Calls Try.prog 26 #[rgv r, .float .f64 key] w (Ret (.bool (hasB r key)) w) := by
  rcases r with _ | ⟨l, h⟩
  · have h1 := refHas_any 1 0 key w hk
    rw [inRange_none] at h1
    exact h1
  · have h1 := refHas_any (kcode l) (kcode h) key w hk
    rw [inRange_some] at h1
    exact h1

/-- Which keys a span has, by plain comparisons. -/
theorem has_plain (lo hi : Nat) (a b : Bool) (key : Nat) :
    hasB (canonS lo hi a b) key = ((flt lo key || feq key lo && !a) && (flt key hi || feq key hi && !b)) := by
  obtain ⟨r, hr⟩ : ∃ r, canonS lo hi a b = r := ⟨_, rfl⟩
  cases hn1 : isNaN lo
  · cases hn2 : isNaN hi
    · cases hn3 : isNaN key
      · have e : hasB (canonS lo hi a b) key = decide ((kof lo).v + (if a then 1 else 0) ≤ (kof key).v ∧ (kof key).v ≤ (kof hi).v - (if b then 1 else 0)) := by
          by_cases h : (kof lo).v + (if a then 1 else 0) ≤ (kof hi).v - (if b then 1 else 0)
          · unfold canonS
            rw [if_neg (by simp [hn1, hn2]), dif_pos h, hasB_some, hn3]
            simp
          · rw [canonS_none h]
            simp only [hasB]
            symm; rw [decide_eq_false_iff_not]; omega
        rw [e]
        simp only [flt, feq, hn1, hn2, hn3]
        rw [Bool.eq_iff_iff]
        cases a <;> cases b <;> simp <;> omega
      · have : hasB (canonS lo hi a b) key = false := by
          rw [hr]; rcases r with _ | ⟨l, h⟩
          · rfl
          · rw [hasB_some]; simp [hn3]
        simp [this, flt, feq, hn3]
    · simp [canonS, hn2, flt, feq, hasB]
  · simp [canonS, hn1, flt, feq, hasB]

theorem refHas_is (r : Rg) (key : Nat) (v : Bool) (w : World) (hk : key < 2 ^ 64) (hv : Hid (hasB r key = v)) :
    Calls Try.prog 26 #[rgv r, .float .f64 key] w (Ret (.bool v) w) := by
  have h := refHas_rg r key w hk
  rw [hv.out] at h
  exact h
end Go.Proofs.Ytibimhjbhincnaa
