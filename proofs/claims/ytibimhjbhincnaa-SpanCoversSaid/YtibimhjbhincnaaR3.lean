/- The reference's range is the form's: plain arithmetic over the walks. -/
import Derived.Test.YtibimhjbhincnaaR2
namespace Go.Proofs.Ytibimhjbhincnaa
set_option linter.unusedVariables false
open Go.RowKit Fl

/-- The code behind, ahead. -/
def nlo (k : Key) : Int := if isCode (kcode k + 1) then kcode k + 1 else kcode k + 1 + 1
def nhi (k : Key) : Int := if isCode (kcode k - 1) then kcode k - 1 else kcode k - 1 - 1

theorem kcode_nn {k : Key} (h : 0 ≤ k.v) : kcode k = k.v + 9223372036854775808 := by unfold kcode; rw [if_pos h]
theorem kcode_neg {k : Key} (h : ¬ 0 ≤ k.v) : kcode k = k.v + 9223372036854775807 := by unfold kcode; rw [if_neg h]
theorem isCode_iff (u : Int) : isCode u = true ↔ (u = 0 ∨ (9223372036854775808 ≤ u ∧ u ≤ 18442240474082181120) ∨ (4503599627370495 ≤ u ∧ u < 9223372036854775807)) := by
  unfold isCode; simp [or_assoc]
theorem isCode_not (u : Int) : isCode u = false ↔ ¬ (u = 0 ∨ (9223372036854775808 ≤ u ∧ u ≤ 18442240474082181120) ∨ (4503599627370495 ≤ u ∧ u < 9223372036854775807)) := by
  rw [← isCode_iff]; simp
theorem kbd (k : Key) : -9218868437227405312 ≤ k.v ∧ k.v ≤ 9218868437227405312 := by
  have h1 := k.lo; have h2 := k.hi; unfold inf at *; omega
theorem vtop {k : Key} : k.v ≠ (inf : Int) ↔ k.v ≠ 9218868437227405312 := by unfold inf; exact Iff.rfl
theorem vbot {k : Key} : k.v ≠ -(inf : Int) ↔ k.v ≠ -9218868437227405312 := by unfold inf; exact Iff.rfl
theorem nlo_next {k : Key} (h : k.v ≠ (inf : Int)) : nlo k = kcode (knext k) := by
  have hb := kbd k
  have hv := knext_v h
  rw [vtop] at h
  unfold nlo
  by_cases h3 : 0 ≤ k.v
  · have e1 := kcode_nn h3
    have e2 := kcode_nn (k := knext k) (by omega)
    rw [if_pos (by rw [isCode_iff]; omega)]; omega
  · have e1 := kcode_neg h3
    by_cases h4 : k.v = -1
    · have e2 := kcode_nn (k := knext k) (by omega)
      rw [if_neg (by rw [isCode_iff]; omega)]; omega
    · have e2 := kcode_neg (k := knext k) (by omega)
      rw [if_pos (by rw [isCode_iff]; omega)]; omega
theorem nhi_prev {k : Key} (h : k.v ≠ -(inf : Int)) : nhi k = kcode (kprev k) := by
  have hb := kbd k
  have hv := kprev_v h
  rw [vbot] at h
  unfold nhi
  by_cases h3 : 0 < k.v
  · have e1 := kcode_nn (k := k) (by omega)
    have e2 := kcode_nn (k := kprev k) (by omega)
    rw [if_pos (by rw [isCode_iff]; omega)]; omega
  · by_cases h4 : k.v = 0
    · have e1 := kcode_nn (k := k) (by omega)
      have e2 := kcode_neg (k := kprev k) (by omega)
      rw [if_neg (by rw [isCode_iff]; omega)]; omega
    · have e1 := kcode_neg (k := k) (by omega)
      have e2 := kcode_neg (k := kprev k) (by omega)
      rw [if_pos (by rw [isCode_iff]; omega)]; omega

theorem ofEnd_key (l h : Key) : ofEnd (kcode l) (kcode h) = rgv (if l.v ≤ h.v then some (l, h) else none) := by
  have h0 : (kcode h == 0) = false := by have := kcode_lo h; rw [beq_eq_false_iff_ne]; omega
  unfold ofEnd endB
  rw [isCode_key, isCode_key, h0]
  by_cases h1 : l.v ≤ h.v
  · have : ¬ kcode h < kcode l := by rw [kcode_lt]; omega
    simp [this, h1, rgv]
  · have : kcode h < kcode l := by rw [kcode_lt]; omega
    simp [this, h1, rgv]
theorem ofEnd_bad {x y : Int} (h : isCode x = false ∨ isCode y = false) : ofEnd x y = rgv none := by
  unfold ofEnd endB
  rw [if_pos]
  · rfl
  · rcases h with h | h <;> simp [h]

theorem nlo_top {k : Key} (h : k.v = (inf : Int)) : isCode (nlo k) = false := by
  have h' : k.v = 9218868437227405312 := by unfold inf at h; exact h
  have e1 := kcode_nn (k := k) (by omega)
  unfold nlo
  rw [if_neg (by rw [isCode_iff]; omega), isCode_not]; omega
theorem nhi_bot {k : Key} (h : k.v = -(inf : Int)) : isCode (nhi k) = false := by
  have h' : k.v = -9218868437227405312 := by unfold inf at h; exact h
  have e1 := kcode_neg (k := k) (by omega)
  unfold nhi
  rw [if_neg (by rw [isCode_iff]; omega), isCode_not]; omega

theorem ofEnd_canon (lo hi : Nat) (a b : Bool) (hn : (isNaN lo || isNaN hi) = false) :
    ofEnd (if a then nlo (kof lo) else kcode (kof lo)) (if b then nhi (kof hi) else kcode (kof hi)) = rgv (canonS lo hi a b) := by
  have hb1 := kbd (kof lo); have hb2 := kbd (kof hi)
  by_cases h1 : a = true ∧ (kof lo).v = (inf : Int)
  · rw [if_pos h1.1, ofEnd_bad (Or.inl (nlo_top h1.2)), canonS_none]
    rw [if_pos h1.1, h1.2]; unfold inf; split <;> omega
  · by_cases h2 : b = true ∧ (kof hi).v = -(inf : Int)
    · rw [if_pos h2.1, ofEnd_bad (Or.inr (nhi_bot h2.2)), canonS_none]
      rw [if_pos h2.1, h2.2]; unfold inf; split <;> omega
    · obtain ⟨l, hl1, hl2⟩ : ∃ l : Key, (if a then nlo (kof lo) else kcode (kof lo)) = kcode l ∧ l.v = (kof lo).v + (if a then 1 else 0) := by
        cases a
        · exact ⟨kof lo, by simp, by simp⟩
        · have : (kof lo).v ≠ (inf : Int) := fun h => h1 ⟨rfl, h⟩
          exact ⟨knext (kof lo), by simp [nlo_next this], by simp [knext_v this]⟩
      obtain ⟨h, hh1, hh2⟩ : ∃ h : Key, (if b then nhi (kof hi) else kcode (kof hi)) = kcode h ∧ h.v = (kof hi).v - (if b then 1 else 0) := by
        cases b
        · exact ⟨kof hi, by simp, by simp⟩
        · have : (kof hi).v ≠ -(inf : Int) := fun h => h2 ⟨rfl, h⟩
          exact ⟨kprev (kof hi), by simp [nhi_prev this], by simp [kprev_v this]⟩
      rw [hl1, hh1, ofEnd_key]
      by_cases h3 : l.v ≤ h.v
      · rw [if_pos h3, canonS_some hn hl2 hh2 h3]
      · rw [if_neg h3, canonS_none (by omega)]

theorem refOf_any (lo hi : Nat) (a b : Bool) (w : World) (hl : lo < 2 ^ 64) (hh : hi < 2 ^ 64) :
    Calls Try.prog 16 #[.agg #[.float .f64 lo, .float .f64 hi, .bool a, .bool b]] w (Ret (rgv (canonS lo hi a b)) w) := by
  cases hn : (isNaN lo || isNaN hi)
  · have hn1 : isNaN lo = false := by cases h : isNaN lo <;> simp_all
    have hn2 : isNaN hi = false := by cases h : isNaN hi <;> simp_all
    have e1 : codeOf lo = kcode (kof lo) := by simp [codeOf, hn1]
    have e2 : codeOf hi = kcode (kof hi) := by simp [codeOf, hn2]
    rw [← ofEnd_canon lo hi a b hn]
    cases a
    · cases b
      · exact refOf_ff lo hi _ _ w hl hh hn e1 e2
      · cases hB : isCode (kcode (kof hi) - 1)
        · simp only [nhi, hB]; exact refOf_fn lo hi _ _ w hl hh hn e1 e2 hB
        · simp only [nhi, hB]; exact refOf_fy lo hi _ _ w hl hh hn e1 e2 hB
    · cases hA : isCode (kcode (kof lo) + 1)
      · cases b
        · simp only [nlo, hA]; exact refOf_nf lo hi _ _ w hl hh hn e1 e2 hA
        · cases hB : isCode (kcode (kof hi) - 1)
          · simp only [nlo, nhi, hA, hB]; exact refOf_nn lo hi _ _ w hl hh hn e1 e2 hA hB
          · simp only [nlo, nhi, hA, hB]; exact refOf_ny lo hi _ _ w hl hh hn e1 e2 hA hB
      · cases b
        · simp only [nlo, hA]; exact refOf_yf lo hi _ _ w hl hh hn e1 e2 hA
        · cases hB : isCode (kcode (kof hi) - 1)
          · simp only [nlo, nhi, hA, hB]; exact refOf_yn lo hi _ _ w hl hh hn e1 e2 hA hB
          · simp only [nlo, nhi, hA, hB]; exact refOf_yy lo hi _ _ w hl hh hn e1 e2 hA hB
  · have e : canonS lo hi a b = none := by simp only [canonS, hn]; simp
    rw [e]
    exact refOf_nan lo hi a b w hl hh hn
end Go.Proofs.Ytibimhjbhincnaa
