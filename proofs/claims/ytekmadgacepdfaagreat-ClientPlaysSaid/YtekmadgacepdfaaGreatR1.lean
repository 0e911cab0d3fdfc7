/- Walks of the references' leaves: codes. -/
import Derived.Test.YtekmadgacepdfaaGreatA1
namespace Go.Proofs.YtekmadgacepdfaaGreat
set_option linter.unusedVariables false
open Go.RowKit Fl

def kcode (k : Key) : Int := if 0 ≤ k.v then k.v + 9223372036854775808 else k.v + 9223372036854775807
def codeOf (b : Nat) : Int := if isNaN b then 0 else kcode (kof b)

theorem kcode_lt (a b : Key) : (kcode a < kcode b) ↔ a.v < b.v := by unfold kcode; split <;> split <;> omega
theorem kcode_eq (a b : Key) : (kcode a = kcode b) ↔ a.v = b.v := by unfold kcode; split <;> split <;> omega
theorem kcode_lo (a : Key) : 4503599627370495 ≤ kcode a := by have := a.lo; unfold inf at this; unfold kcode; split <;> omega
theorem kcode_hi (a : Key) : kcode a ≤ 18442240474082181120 := by have := a.hi; unfold inf at this; unfold kcode; split <;> omega

theorem refNan_any (b : Nat) (hb : b < 2 ^ 64) (w : World) :
  Calls Tryz.prog 79 #[.float .f64 b] w fun e w' => e = .returned (.bool (isNaN b)) ∧ w = w' := by
 have h1 := bits_andNot_top hb
 have H : Hid (decide ((9218868437227405312 : Int) < ((b % top : Nat) : Int)) = isNaN b) := by
  show _ = _
  unfold isNaN inf; apply decide_eq_decide.2; omega
 clear hb
 go_enter Tryz.func79, Tryz.ntmps79
 go_wp2
 go_ret
 exact ⟨ret_bool H.out, rfl⟩

theorem refBits_any (b : Nat) (hb : b < 2 ^ 64) (w : World) :
  Calls Tryz.prog 154 #[.float .f64 b] w fun e w' => e = .returned (.int .u64 (cbits b : Nat)) ∧ w = w' := by
 cases hn : isNaN b
 ·by_cases hz : b = top
  ·have e : cbits b = 0 := by rw [hz, cbits_top]
   have h1 : ((b : Int) == 9223372036854775808) = true := by rw [hz]; unfold top; rfl
   rw [e]
   clear e hz
   go_enter Tryz.func154, Tryz.ntmps154
   go_wp2_with (go_at_call 79; (with_reducible refine (refNan_any _ hb _).mono ?_); rintro e w' ⟨rfl, rfl⟩)
   go_ret
   exact ⟨rfl, rfl⟩
  ·have e : cbits b = b := by rw [cbits_num hn, bits_kof hb hn hz]
   have h1 : ((b : Int) == 9223372036854775808) = false := by rw [beq_eq_false_iff_ne]; unfold top at hz; omega
   rw [e]
   clear e hz
   go_enter Tryz.func154, Tryz.ntmps154
   go_wp2_with (go_at_call 79; (with_reducible refine (refNan_any _ hb _).mono ?_); rintro e w' ⟨rfl, rfl⟩)
   go_ret
   exact ⟨rfl, rfl⟩
 ·have e : cbits b = nanBits := cbits_nan hn
  rw [e]
  go_enter Tryz.func154, Tryz.ntmps154
  go_wp2_with (go_at_call 79; (with_reducible refine (refNan_any _ hb _).mono ?_); rintro e w' ⟨rfl, rfl⟩)
  go_ret
  exact ⟨rfl, rfl⟩

theorem refCode_any (b : Nat) (hb : b < 2 ^ 64) (w : World) :
  Calls Tryz.prog 125 #[.float .f64 b] w fun e w' => e = .returned (.int .u64 (codeOf b)) ∧ w = w' := by
 cases hn : isNaN b
 ·have hc : codeOf b = kcode (kof b) := by simp [codeOf, hn]
  have e : cbits b = (kof b).bits := cbits_num hn
  have h1 : (((cbits b : Nat) : Int) == 9221120237041090561) = false := by
   have h1 := (kof b).lo; have h2 := (kof b).hi
   rw [e, beq_eq_false_iff_ne]; unfold Key.bits inf top at *; split <;> omega
  by_cases hp : 0 ≤ (kof b).v
  ·have h2 : decide ((9223372036854775808 : Int) ≤ ((cbits b : Nat) : Int)) = false := by
    have h1 := (kof b).hi
    rw [e]; unfold Key.bits inf at *; rw [if_pos hp, decide_eq_false_iff_not]; omega
   have h3 : IntKind.u64.wrap (((cbits b : Nat) : Int) + 9223372036854775808) = codeOf b := by
    have h1 := (kof b).hi
    rw [hc, e, IntKind.wrap_u64]; unfold kcode Key.bits inf at *; rw [if_pos hp, if_pos hp]; omega
   clear hc e hp
   go_enter Tryz.func125, Tryz.ntmps125
   go_wp2_with (go_at_call 154; (with_reducible refine (refBits_any _ hb _).mono ?_); rintro e w' ⟨rfl, rfl⟩)
   go_ret
   exact ⟨rfl, rfl⟩
  ·have h2 : decide ((9223372036854775808 : Int) ≤ ((cbits b : Nat) : Int)) = true := by
    rw [e]; unfold Key.bits top; rw [if_neg hp, decide_eq_true_eq]; omega
   have h3 : IntKind.u64.wrap (18446744073709551615 - ((cbits b : Nat) : Int)) = codeOf b := by
    have h1 := (kof b).lo
    rw [hc, e, IntKind.wrap_u64]; unfold kcode Key.bits inf top at *; rw [if_neg hp, if_neg hp]; omega
   clear hc e hp
   go_enter Tryz.func125, Tryz.ntmps125
   go_wp2_with (go_at_call 154; (with_reducible refine (refBits_any _ hb _).mono ?_); rintro e w' ⟨rfl, rfl⟩)
   go_ret
   exact ⟨rfl, rfl⟩
 ·have hc : codeOf b = 0 := by simp [codeOf, hn]
  have h1 : (((cbits b : Nat) : Int) == 9221120237041090561) = true := by rw [cbits_nan hn]; unfold nanBits; rfl
  rw [hc]
  clear hc
  go_enter Tryz.func125, Tryz.ntmps125
  go_wp2_with (go_at_call 154; (with_reducible refine (refBits_any _ hb _).mono ?_); rintro e w' ⟨rfl, rfl⟩)
  go_ret
  exact ⟨rfl, rfl⟩

def isCode (u : Int) : Bool := (u == 0) || (decide (9223372036854775808 ≤ u) && decide (u ≤ 18442240474082181120)) || (decide (4503599627370495 ≤ u) && decide (u < 9223372036854775807))

theorem isCode_key (k : Key) : isCode (kcode k) = true := by
 have h1 := k.lo; have h2 := k.hi
 unfold isCode kcode inf at *
 split <;> simp <;> omega

theorem refIsCode_any (u : Int) (h0 : 0 ≤ u) (hu : u ≤ 18446744073709551615) (w : World) :
  Calls Tryz.prog 133 #[.int .u64 u] w fun e w' => e = .returned (.bool (isCode u)) ∧ w = w' := by
 by_cases hz : u = 0
 ·subst hz
  go_enter Tryz.func133, Tryz.ntmps133
  go_wp2
  go_ret
  exact ⟨rfl, rfl⟩
 ·have hz' : (u == 0) = false := by rw [beq_eq_false_iff_ne]; exact hz
  by_cases hp : 9223372036854775808 ≤ u
  ·have h1 : decide ((9223372036854775808 : Int) ≤ u) = true := by simpa using hp
   have h2 : IntKind.u64.wrap (u - 9223372036854775808) = u - 9223372036854775808 := by rw [IntKind.wrap_u64]; omega
   have H : Hid (decide (u - 9223372036854775808 ≤ 9218868437227405312) = isCode u) := by
    show _ = _
    unfold isCode; rw [hz', h1]
    rw [Bool.eq_iff_iff]; simp; omega
   clear hp h0 hu hz
   go_enter Tryz.func133, Tryz.ntmps133
   go_wp2
   go_ret
   exact ⟨ret_bool H.out, rfl⟩
  ·have h1 : decide ((9223372036854775808 : Int) ≤ u) = false := by simpa using hp
   have h2 : IntKind.u64.wrap (18446744073709551615 - u) = 18446744073709551615 - u := by rw [IntKind.wrap_u64]; omega
   have H : Hid (isCode u = (decide ((9223372036854775808 : Int) < 18446744073709551615 - u) && decide (18446744073709551615 - u ≤ 18442240474082181120))) := by
    show _ = _
    unfold isCode; rw [hz', h1]
    rw [Bool.eq_iff_iff]; simp; omega
   clear hp h0 hu hz
   cases h3 : decide ((9223372036854775808 : Int) < 18446744073709551615 - u)
   ·go_enter Tryz.func133, Tryz.ntmps133
    go_wp2
    go_ret
    exact ⟨ret_bool (by rw [H.out, h3]; simp), rfl⟩
   ·go_enter Tryz.func133, Tryz.ntmps133
    go_wp2
    go_ret
    exact ⟨ret_bool (by rw [H.out, h3]; simp), rfl⟩

theorem refOfCode_any (k : Key) (w : World) :
  Calls Tryz.prog 124 #[.int .u64 (kcode k)] w fun e w' => e = .returned (.float .f64 k.bits) ∧ w = w' := by
 have h0 : (kcode k == 0) = false := by have := kcode_lo k; rw [beq_eq_false_iff_ne]; omega
 have hl := k.lo; have hh := k.hi
 by_cases hp : 0 ≤ k.v
 ·have h1 : decide ((9223372036854775808 : Int) ≤ kcode k) = true := by unfold kcode; rw [if_pos hp]; simp; omega
  have h2 : IntKind.u64.wrap (kcode k - 9223372036854775808) = (k.bits : Int) := by
   rw [IntKind.wrap_u64]; unfold kcode Key.bits inf at *; rw [if_pos hp, if_pos hp]; omega
  clear hp hl hh
  go_enter Tryz.func124, Tryz.ntmps124
  go_wp2
  go_ret
  exact ⟨rfl, rfl⟩
 ·have h1 : decide ((9223372036854775808 : Int) ≤ kcode k) = false := by unfold kcode; rw [if_neg hp]; simp; omega
  have h2 : IntKind.u64.wrap (18446744073709551615 - kcode k) = (k.bits : Int) := by
   rw [IntKind.wrap_u64]; unfold kcode Key.bits inf top at *; rw [if_neg hp, if_neg hp]; omega
  clear hp hl hh
  go_enter Tryz.func124, Tryz.ntmps124
  go_wp2
  go_ret
  exact ⟨rfl, rfl⟩

theorem refOfNan_any (w : World) :
  Calls Tryz.prog 124 #[.int .u64 0] w fun e w' => e = .returned (.float .f64 nanBits) ∧ w = w' := by
 go_enter Tryz.func124, Tryz.ntmps124
 go_wp2
 go_ret
 exact ⟨rfl, rfl⟩
end Go.Proofs.YtekmadgacepdfaaGreat
