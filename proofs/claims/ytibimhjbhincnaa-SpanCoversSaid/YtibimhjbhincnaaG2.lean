/- Plain laws of meeting and joining. -/
import Derived.Test.YtibimhjbhincnaaG1
namespace Go.Proofs.Ytibimhjbhincnaa
set_option linter.unusedVariables false
open Go.RowKit Fl

theorem kMost_comm (a b : Key) : kMost a b = kMost b a := Key.ext' (by simp only [kMost_v]; split <;> split <;> omega)
theorem kLeast_comm (a b : Key) : kLeast a b = kLeast b a := Key.ext' (by simp only [kLeast_v]; split <;> split <;> omega)
theorem kMost_assoc (a b c : Key) : kMost (kMost a b) c = kMost a (kMost b c) := Key.ext' (by simp only [kMost_v]; repeat' split <;> first | omega | skip)
theorem kLeast_assoc (a b c : Key) : kLeast (kLeast a b) c = kLeast a (kLeast b c) := Key.ext' (by simp only [kLeast_v]; repeat' split <;> first | omega | skip)
theorem kMost_ge (a b : Key) : a.v ≤ (kMost a b).v ∧ b.v ≤ (kMost a b).v := by rw [kMost_v]; split <;> omega
theorem kLeast_le (a b : Key) : (kLeast a b).v ≤ a.v ∧ (kLeast a b).v ≤ b.v := by rw [kLeast_v]; split <;> omega

@[simp] theorem meetR_none (r : Rg) : meetR none r = none := by rcases r with _ | ⟨l, h⟩ <;> rfl
@[simp] theorem meetR_none' (r : Rg) : meetR r none = none := by rcases r with _ | ⟨l, h⟩ <;> rfl
theorem meetR_comm (r r' : Rg) : meetR r r' = meetR r' r := by
  rcases r with _ | ⟨l, h⟩ <;> rcases r' with _ | ⟨l', h'⟩ <;> try simp
  rw [meetR_ss, meetR_ss, kMost_comm l' l, kLeast_comm h' h]
theorem meetR_assoc (r r' r'' : Rg) : meetR (meetR r r') r'' = meetR r (meetR r' r'') := by
  rcases r with _ | ⟨l, h⟩ <;> rcases r' with _ | ⟨l', h'⟩ <;> rcases r'' with _ | ⟨l'', h''⟩ <;> try simp
  rw [meetR_ss, meetR_ss]
  have a1 := kMost_ge l l'; have a2 := kMost_ge l' l''; have a3 := kMost_ge (kMost l l') l''; have a4 := kMost_ge l (kMost l' l'')
  have b1 := kLeast_le h h'; have b2 := kLeast_le h' h''; have b3 := kLeast_le (kLeast h h') h''; have b4 := kLeast_le h (kLeast h' h'')
  have e1 := kMost_assoc l l' l''; have e2 := kLeast_assoc h h' h''
  rw [e1] at a3; rw [e2] at b3
  split
  · rw [meetR_none]
    split
    · rw [meetR_none']
    · rw [meetR_ss, if_pos (by omega)]
  · split
    · rw [meetR_none', meetR_ss, e1, e2, if_pos (by omega)]
    · rw [meetR_ss, meetR_ss, e1, e2]
theorem meetR_self {r : Rg} (ok : okR r) : meetR r r = r := by
  rcases r with _ | ⟨l, h⟩
  · rfl
  · have : l.v ≤ h.v := ok
    rw [meetR_ss]
    have e1 : kMost l l = l := Key.ext' (by rw [kMost_v]; split <;> rfl)
    have e2 : kLeast h h = h := Key.ext' (by rw [kLeast_v]; split <;> rfl)
    rw [e1, e2, if_neg (by omega)]
theorem meetR_sub {r : Rg} (ok : okR r) (r' : Rg) : meetR (meetR r r') r = meetR r r' := by
  rw [meetR_comm, ← meetR_assoc, meetR_self ok]
theorem meetR_sub' {r' : Rg} (ok : okR r') (r : Rg) : meetR (meetR r r') r' = meetR r r' := by
  rw [meetR_assoc, meetR_self ok]
theorem withinB_self (r : Rg) : withinB r r = true := by
  rcases r with _ | ⟨l, h⟩
  · rfl
  · simp [withinB, feq_kk]
theorem withinB_eq {m r : Rg} (h : withinB m r = true) : m = r := by
  rcases m with _ | ⟨l, h⟩ <;> rcases r with _ | ⟨l', h'⟩ <;> simp [withinB, feq_kk] at h
  · rfl
  · obtain ⟨e1, e2⟩ := h
    rw [Key.ext' e1, Key.ext' e2]
theorem withinB_code (m r : Rg) : withinB m r = (rlo m == rlo r && rhi m == rhi r) := by
  rcases m with _ | ⟨l, h⟩ <;> rcases r with _ | ⟨l', h'⟩ <;> simp [withinB, feq_kk, rlo, rhi]
  · have := kcode_lo l'; omega
  · have := kcode_lo l; omega
  · rw [Bool.eq_iff_iff]; simp [kcode_eq]

theorem joinR_comm (r r' : Rg) : joinR r r' = joinR r' r := by
  rcases r with _ | ⟨l, h⟩ <;> rcases r' with _ | ⟨l', h'⟩ <;> simp only [joinR]
  rw [kLeast_comm l' l, kMost_comm h' h]
  by_cases c1 : flt (knext h).bits l'.bits = true <;> by_cases c2 : flt (knext h').bits l.bits = true <;> simp [c1, c2]
theorem joinR_within {r r' m : Rg} (ok : okR r) (h : joinR r r' = (m, true)) : meetR r m = r := by
  rcases r with _ | ⟨l, h1⟩
  · simp
  · rcases r' with _ | ⟨l', h'⟩
    · simp only [joinR] at h
      cases h
      exact meetR_self ok
    · simp only [joinR] at h
      have : l.v ≤ h1.v := ok
      split at h
      · cases h
      · split at h
        · cases h
        · cases h
          rw [meetR_ss]
          have e1 : kMost l (kLeast l l') = l := Key.ext' (by simp only [kMost_v, kLeast_v]; repeat' split <;> first | omega | skip)
          have e2 : kLeast h1 (kMost h1 h') = h1 := Key.ext' (by simp only [kMost_v, kLeast_v]; repeat' split <;> first | omega | skip)
          rw [e1, e2, if_neg (by omega)]

theorem hasB_none (key : Nat) : hasB none key = false := rfl
theorem hasB_nan (r : Rg) {key : Nat} (h : isNaN key = true) : hasB r key = false := by
  rcases r with _ | ⟨l, h'⟩
  · rfl
  · rw [hasB_some, h]; rfl
theorem hasB_num (l h : Key) {key : Nat} (hn : isNaN key = false) : hasB (some (l, h)) key = decide (l.v ≤ (kof key).v ∧ (kof key).v ≤ h.v) := by
  rw [hasB_some, hn, Bool.eq_iff_iff]; simp
theorem hasB_meet (r r' : Rg) (key : Nat) : hasB (meetR r r') key = (hasB r key && hasB r' key) := by
  cases hn : isNaN key
  · rcases r with _ | ⟨l, h⟩ <;> rcases r' with _ | ⟨l', h'⟩ <;> try simp [hasB_none]
    rw [meetR_ss, hasB_num _ _ hn, hasB_num _ _ hn, Bool.eq_iff_iff]
    split
    · rename_i hc
      rw [kMost_v, kLeast_v] at hc
      simp only [hasB_none, Bool.false_eq_true, Bool.and_eq_true, decide_eq_true_eq, false_iff]
      rintro ⟨⟨_, _⟩, _, _⟩
      split at hc <;> split at hc <;> omega
    · rw [hasB_num _ _ hn, kMost_v, kLeast_v]
      simp only [Bool.and_eq_true, decide_eq_true_eq]
      split <;> split <;> omega
  · rw [hasB_nan _ hn, hasB_nan _ hn]; rfl
theorem hasB_join {r r' m : Rg} (h : joinR r r' = (m, true)) (key : Nat) : hasB m key = (hasB r key || hasB r' key) := by
  rcases r with _ | ⟨l, h1⟩
  · simp only [joinR] at h; cases h; simp [hasB_none]
  · rcases r' with _ | ⟨l', h'⟩
    · simp only [joinR] at h; cases h; simp [hasB_none]
    · simp only [joinR] at h
      split at h
      · cases h
      · split at h
        · cases h
        · cases h
          rename_i n1 n2
          rw [flt_kk] at n1 n2
          simp only [decide_eq_true_eq] at n1 n2
          have g1 : ¬ h1.v + 1 < l'.v := fun hc => by
            have := l'.hi
            rw [knext_v (by omega)] at n1; omega
          have g2 : ¬ h'.v + 1 < l.v := fun hc => by
            have := l.hi
            rw [knext_v (by omega)] at n2; omega
          cases hn : isNaN key
          · rw [hasB_num _ _ hn, hasB_num _ _ hn, hasB_num _ _ hn, Bool.eq_iff_iff, kMost_v, kLeast_v]
            simp only [Bool.or_eq_true, decide_eq_true_eq]
            clear n1 n2
            split <;> split <;> omega
          · rw [hasB_nan _ hn, hasB_nan _ hn, hasB_nan _ hn]; rfl
end Go.Proofs.Ytibimhjbhincnaa
