/- Rows of numbers compared. -/
import Derived.Test.YtekmadgacepdfaaGreatMUD
namespace Go.Proofs.YtekmadgacepdfaaGreat.U
set_option linter.unusedVariables false
open Go.RowKit Fl
set_option linter.unusedSimpArgs false

theorem sameZ_len (a b : Option Addr) (n m ca cb : Nat) (w : World) (h : n ≠ m) :
  Calls Tryz.prog 34 #[.slice a n ca, .slice b m cb] w fun e w' => e = .returned (.bool false) ∧ w = w' := by
 have h1 : ((n : Int) != (m : Int)) = true := by simp; omega
 go_enter Tryz.func34, Tryz.ntmps34
 go_wp2
 go_ret
 exact ⟨rfl, rfl⟩
theorem sameZ_nil (a b : Option Addr) (ca cb : Nat) (w : World) :
  Calls Tryz.prog 34 #[.slice a 0 ca, .slice b 0 cb] w fun e w' => e = .returned (.bool true) ∧ w = w' := by
 go_enter Tryz.func34, Tryz.ntmps34
 go_wp2
 go_loop [5] (fun i => i = .int .i64 0) (fun _ => 0)
 case atStart => rfl
 case round =>
  subst hrel
  go_wp2
  go_ret
  exact ⟨rfl, rfl⟩
theorem sameZ_row (b1 o1 b2 o2 : Nat) (ca cb : Nat) (xs ys : List Int) (w : World) (hl : xs.length = ys.length) (hm : xs.length ≤ maxLen)
  (h1 : ∀ i, i < xs.length → w.cell? ⟨b1, o1 + i, none⟩ = some (.int .i64 (xs[i]?.getD 0)))
  (h2 : ∀ i, i < xs.length → w.cell? ⟨b2, o2 + i, none⟩ = some (.int .i64 (ys[i]?.getD 0))) :
  Calls Tryz.prog 34 #[.slice (some ⟨b1, o1, none⟩) xs.length ca, .slice (some ⟨b2, o2, none⟩) xs.length cb] w fun e w' => e = .returned (.bool (decide (xs = ys))) ∧ ∃ q, w' = w.drewN q := by
 have H1 := hid h1; have H2 := hid h2; have HL := hid hl
 clear h1 h2 hl
 generalize hn : xs.length = n at *
 unfold maxLen at hm
 have HN := hid hn
 clear hn
 go_enter Tryz.func34, Tryz.ntmps34
 go_wp2
 go_loopw [5] (fun i wr => ∃ k : Nat, k ≤ n ∧ i = .int .i64 k ∧ (∀ j, j < k → xs[j]?.getD 0 = ys[j]?.getD 0) ∧ ∃ q, wr = w.drewN q) (fun i _ => n - (intOf i).toNat)
 case atStart => exact ⟨0, Nat.zero_le _, rfl, fun j hj => absurd hj (Nat.not_lt_zero _), 0, rfl⟩
 case round =>
  obtain ⟨k, hk, rfl, hr, q, rfl⟩ := hrel
  have HR := hid hr
  clear hr
  by_cases hlt : k < n
  ·have c1 := H1.out k hlt
   have c2 := H2.out k hlt
   by_cases he : xs[k]?.getD 0 = ys[k]?.getD 0
   ·have ht : ((xs[k]?.getD 0) != (ys[k]?.getD 0)) = false := by rw [he]; simp
    have HE := hid he
    clear he
    have hb : (k : Int) < (n : Int) := by omega
    go_wp2
    go_quiet (fail)
    go_wp2
    go_roundw
    case rel => exact ⟨k + 1, by omega, by go_num, fun j hj => by
      by_cases h : j < k
      ·exact HR.out j h
      ·obtain rfl : j = k := by omega
       exact HE.out, _, rfl⟩
    case measure => simp [intOf]; omega
   ·have ht : ((xs[k]?.getD 0) != (ys[k]?.getD 0)) = true := by simp; omega
    have HE := hid he
    clear he
    have hb : (k : Int) < (n : Int) := by omega
    go_wp2
    go_quiet (fail)
    go_wp2
    go_ret
    refine ⟨ret_bool ?_, _, World.drewN_drewN ..⟩
    symm; rw [decide_eq_false_iff_not]
    intro h; exact HE.out (by rw [h])
  ·obtain rfl : k = n := by omega
   go_wp2
   go_ret
   refine ⟨ret_bool ?_, _, rfl⟩
   symm; rw [decide_eq_true_eq]
   apply List.ext_getElem?
   intro j
   by_cases hj : j < k
   ·have := HR.out j hj
    have e1 : xs[j]? = some (xs[j]?.getD 0) := by
     rw [List.getElem?_eq_getElem (by have := HN.out; omega)]; rfl
    have e2 : ys[j]? = some (ys[j]?.getD 0) := by
     rw [List.getElem?_eq_getElem (by have := HN.out; have := HL.out; omega)]; rfl
    rw [e1, e2, this]
   ·rw [List.getElem?_eq_none (by have := HN.out; omega), List.getElem?_eq_none (by have := HN.out; have := HL.out; omega)]
theorem sameZ_any (a a' : Option Addr) (c c' n n' : Nat) (xs ys : List Int) (v : Bool) (w : World) (hn : xs.length = n) (hn' : ys.length = n') (hx : ZAt w a xs) (hy : ZAt w a' ys) (hv : decide (xs = ys) = v) :
  Calls Tryz.prog 34 #[.slice a n c, .slice a' n' c'] w (Ret (.bool v) w) := by
 by_cases hnn : n = n'
 ·subst hnn
  by_cases h0 : n = 0
  ·subst h0
   have e1 : xs = [] := List.eq_nil_of_length_eq_zero hn
   have e2 : ys = [] := List.eq_nil_of_length_eq_zero hn'
   rw [e1, e2] at hv
   have : v = true := by rw [← hv]; simp
   subst this
   exact (sameZ_nil a a' c c' w).mono fun e w' ⟨h1, h2⟩ => ⟨h1, by rw [← h2]; exact Below.refl _ _⟩
  ·rcases hx.row with h1 | ⟨b, o, rfl, hb, hc⟩
   ·rw [h1] at hn; simp at hn; omega
   rcases hy.row with h1 | ⟨b', o', rfl, hb', hc'⟩
   ·rw [h1] at hn'; simp at hn'; omega
   have h := sameZ_row b o b' o' c c' xs ys w (by omega) hx.len hc (fun i hi => hc' i (by omega))
   rw [hn, hv] at h
   exact h.mono fun e w' ⟨h1, q, h2⟩ => ⟨h1, by rw [h2]; exact below_drewN' (Below.refl _ _) _⟩
 ·have : v = false := by
   rw [← hv, decide_eq_false_iff_not]
   intro h
   rw [h] at hn; omega
  subst this
  exact (sameZ_len a a' n n' c c' w hnn).mono fun e w' ⟨h1, h2⟩ => ⟨h1, by rw [← h2]; exact Below.refl _ _⟩

end Go.Proofs.YtekmadgacepdfaaGreat.U
