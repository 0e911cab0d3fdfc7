/- The keys of a form that is not empty; the order of forms as that of whole numbers. -/
import Derived.Test.YtekmadgacepdfaaGreatB2
import Derived.Test.YtekmadgacepdfaaGreatMR
namespace Go.Proofs.YtekmadgacepdfaaGreat
set_option linter.unusedVariables false
open Go.RowKit Fl

structure RK where
 lo : Key
 hi : Key
 le : lo.v ≤ hi.v
instance : Inhabited RK := ⟨⟨kzero, kzero, Int.le_refl _⟩⟩
def RK.rg (k : RK) : Rg := some (k.lo, k.hi)
theorem RK.ok (k : RK) : okR k.rg := k.le
theorem RK.ext' {a b : RK} (h1 : a.lo = b.lo) (h2 : a.hi = b.hi) : a = b := by cases a; cases b; simp only at h1 h2; subst h1; subst h2; rfl

def codeR : Rg → Int
 | none => -1000000000000000000000000000000000000000000000
 | some (l, h) => l.v * 36893488147419103232 + h.v
theorem key_abs (k : Key) : -9223372036854775808 < k.v ∧ k.v < 9223372036854775808 := by have := k.lo; have := k.hi; unfold inf at *; omega
theorem codeR_some (l h l' h' : Key) : codeR (some (l, h)) < codeR (some (l', h')) ↔ l.v < l'.v ∨ (l.v = l'.v ∧ h.v < h'.v) := by
 have := key_abs l; have := key_abs h; have := key_abs l'; have := key_abs h'
 simp only [codeR]; omega
theorem codeR_inj (l h l' h' : Key) : codeR (some (l, h)) = codeR (some (l', h')) ↔ l = l' ∧ h = h' := by
 have := key_abs l; have := key_abs h; have := key_abs l'; have := key_abs h'
 constructor
 ·intro e
  simp only [codeR] at e
  exact ⟨Key.ext' (by omega), Key.ext' (by omega)⟩
 ·rintro ⟨rfl, rfl⟩; rfl
theorem codeR_none (l h : Key) : codeR none < codeR (some (l, h)) := by
 have := key_abs l; have := key_abs h
 simp only [codeR]; omega
theorem rk_inj {a b : RK} (h : codeR a.rg = codeR b.rg) : a = b := by
 obtain ⟨h1, h2⟩ := (codeR_inj _ _ _ _).1 h
 exact RK.ext' h1 h2
theorem cmpR_code (r s : Rg) : cmpR r s = cmpI (codeR r) (codeR s) := by
 rcases r with _ | ⟨l, h⟩ <;> rcases s with _ | ⟨l', h'⟩
 ·simp [cmpR, cmpI]
 ·have := codeR_none l' h'
  simp [cmpR, cmpI, this]
 ·have := codeR_none l h
  simp [cmpR, cmpI, this]; omega
 ·have h1 := codeR_some l h l' h'
  have h2 := codeR_some l' h' l h
  unfold cmpR orI cmpI
  simp only [h1, h2]
  rcases Int.lt_trichotomy l.v l'.v with e | e | e
  ·rw [if_pos e]; simp [e]
  ·rw [e]; simp
  ·rw [if_neg (by omega), if_pos e]; simp [e]; omega

end Go.Proofs.YtekmadgacepdfaaGreat
