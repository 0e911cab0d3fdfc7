/- Several texts as one: R2 R3 R4 R5 G0 L0 Idx S1 SV SU. -/
import Derived.Test.YtfbachckdadhoaaGreatMFL
import Derived.Deep.RegionWith
import Derived.StillTailTactics
import Derived.Test.YtfbachckdadhoaaGreatMA
import Derived.WalkKit
namespace Go.Proofs.YtfbachckdadhoaaGreat
set_option linter.unusedVariables false
open Go.RowKit Fl

@[go_sem] theorem fieldRg0 (x0 x1 : Value) (w : World) : (Instr.field 84 (.agg #[x0, x1]) 0).run Tryz.prog w = .ok x0 w := by kernel_rfl
@[go_sem] theorem fieldRg1 (x0 x1 : Value) (w : World) : (Instr.field 84 (.agg #[x0, x1]) 1).run Tryz.prog w = .ok x1 w := by kernel_rfl

def rgv : Rg → Value
 | none => .agg #[.int .u64 1, .int .u64 0]
 | some (l, h) => .agg #[.int .u64 (kcode l), .int .u64 (kcode h)]
@[go_sem] theorem rgv_none : rgv none = .agg #[.int .u64 1, .int .u64 0] := rfl
@[go_sem] theorem rgv_some (l h : Key) : rgv (some (l, h)) = .agg #[.int .u64 (kcode l), .int .u64 (kcode h)] := rfl

theorem refNone_any (w : World) : Calls Tryz.prog 85 #[] w (Ret (rgv none) w) := by
 go_enter Tryz.func85, Tryz.ntmps85
 go_wp2
 exact bodyPost_ret (v := rgv none) (by simp [results, Tryz.results85, go_sem]) rfl ⟨rfl, by exact below_auto⟩

def endB (lo hi : Int) : Bool := decide (hi < lo) || !isCode lo || !isCode hi || (hi == 0)
def ofEnd (lo hi : Int) : Value := if endB lo hi then .agg #[.int .u64 1, .int .u64 0] else .agg #[.int .u64 lo, .int .u64 hi]

theorem refOf_nan (lo hi : Nat) (a b : Bool) (w : World) (hl : lo < 2 ^ 64) (hh : hi < 2 ^ 64) (hn : (isNaN lo || isNaN hi) = true) :
  Calls Tryz.prog 36 #[.agg #[.float .f64 lo, .float .f64 hi, .bool a, .bool b]] w (Ret (rgv none) w) := by
 cases h1 : isNaN lo
 ·have h2 : isNaN hi = true := by simpa [h1] using hn
  clear hn
  go_enter Tryz.func36, Tryz.ntmps36
  go_wp2_with (first | (go_at_call 84; (with_reducible refine (refNan_any _ (by assumption) _).mono ?_); rintro e w' ⟨rfl, rfl⟩) | (go_at_call 85; (with_reducible refine (refNone_any _).mono ?_); rintro e w1 ⟨rfl, hb1⟩; refine mB hb1 ?_; intro hc1 hf1 hz1; intros))
  exact bodyPost_ret (v := rgv none) (by simp [results, Tryz.results36, go_sem, *]) rfl ⟨rfl, by exact below_auto⟩
 ·clear hn
  go_enter Tryz.func36, Tryz.ntmps36
  go_wp2_with (first | (go_at_call 84; (with_reducible refine (refNan_any _ (by assumption) _).mono ?_); rintro e w' ⟨rfl, rfl⟩) | (go_at_call 85; (with_reducible refine (refNone_any _).mono ?_); rintro e w1 ⟨rfl, hb1⟩; refine mB hb1 ?_; intro hc1 hf1 hz1; intros))
  exact bodyPost_ret (v := rgv none) (by simp [results, Tryz.results36, go_sem, *]) rfl ⟨rfl, by exact below_auto⟩

theorem ofEnd_n1 {X Y : Int} (h : Y < X) : Ending.returned (rgv none) = .returned (ofEnd X Y) := by unfold ofEnd endB; simp [h]; rfl
theorem ofEnd_n2 {X Y : Int} (h : ¬ isCode X = true) : Ending.returned (rgv none) = .returned (ofEnd X Y) := by unfold ofEnd endB; simp [h]; rfl
theorem ofEnd_n3 {X Y : Int} (h : ¬ isCode Y = true) : Ending.returned (rgv none) = .returned (ofEnd X Y) := by unfold ofEnd endB; simp [h]; rfl
theorem ofEnd_s {X Y : Int} (h1 : X ≤ Y) (h2 : isCode X = true) (h3 : isCode Y = true) (h0 : (Y == 0) = false) : Ending.returned (.agg #[.int .u64 X, .int .u64 Y]) = .returned (ofEnd X Y) := by
 have : ¬ Y < X := by omega
 have h0' : Y ≠ 0 := by simpa using h0
 unfold ofEnd endB; simp [h2, h3, this, h0']

theorem wrap_k1 (k : Key) : IntKind.u64.wrap (kcode k + 1) = kcode k + 1 := by have := kcode_lo k; have := kcode_hi k; rw [IntKind.wrap_u64]; omega
theorem wrap_k2 (k : Key) : IntKind.u64.wrap (kcode k + 1 + 1) = kcode k + 1 + 1 := by have := kcode_lo k; have := kcode_hi k; rw [IntKind.wrap_u64]; omega
theorem wrap_m1 (k : Key) : IntKind.u64.wrap (kcode k - 1) = kcode k - 1 := by have := kcode_lo k; have := kcode_hi k; rw [IntKind.wrap_u64]; omega
theorem wrap_m2 (k : Key) : IntKind.u64.wrap (kcode k - 1 - 1) = kcode k - 1 - 1 := by have := kcode_lo k; have := kcode_hi k; rw [IntKind.wrap_u64]; omega

theorem refOf_ff (lo hi : Nat) (kl kh : Key) (w : World) (hl : lo < 2 ^ 64) (hh : hi < 2 ^ 64) (hn : (isNaN lo || isNaN hi) = false) (h1 : codeOf lo = kcode kl) (h2 : codeOf hi = kcode kh) :
  Calls Tryz.prog 36 #[.agg #[.float .f64 lo, .float .f64 hi, .bool false, .bool false]] w (Ret (ofEnd (kcode kl) (kcode kh)) w) := by
 have hn1 : isNaN lo = false := by cases h : isNaN lo <;> simp_all
 have hn2 : isNaN hi = false := by cases h : isNaN hi <;> simp_all
 have h0 : (kcode kh == 0) = false := by have := kcode_lo kh; rw [beq_eq_false_iff_ne]; omega
 have BD := hid (show _ ∧ _ ∧ _ ∧ _ from ⟨kcode_lo kl, kcode_hi kl, kcode_lo kh, kcode_hi kh⟩)
 clear hn
 go_enter Tryz.func36, Tryz.ntmps36
 go_wp2_with (first | (go_at_call 84; (with_reducible refine (refNan_any _ (by assumption) _).mono ?_); rintro e w' ⟨rfl, rfl⟩))
 go_quiet ((go_at_call 86; exact Calls.quiet_of_same ((refCode_any _ (by assumption) _).mono fun _ _ ⟨hq1, hq2⟩ => ⟨hq1, hq2.symm⟩)))
 go_wp2_with (first | (go_at_call 87; (with_reducible refine (refIsCode_any _ (by have := BD.out; omega) (by have := BD.out; omega) _).mono ?_); rintro e w' ⟨rfl, rfl⟩) | (go_at_call 85; (with_reducible refine (refNone_any _).mono ?_); rintro e w1 ⟨rfl, hb1⟩; refine mB hb1 ?_; intro hc1 hf1 hz1; intros))
 all_goals first
  | exact bodyPost_ret (v := rgv none) (by simp [results, Tryz.results36, go_sem, *]) rfl ⟨(by first | exact ofEnd_n1 (by assumption) | exact ofEnd_n2 (by assumption) | exact ofEnd_n3 (by assumption)), by exact below_auto⟩
  | exact bodyPost_ret (v := .agg #[.int .u64 (kcode kl), .int .u64 (kcode kh)]) (by simp [results, Tryz.results36, go_sem, *]) rfl ⟨ofEnd_s (by assumption) (by assumption) (by assumption) (by assumption), by exact below_auto⟩

theorem refOf_fy (lo hi : Nat) (kl kh : Key) (w : World) (hl : lo < 2 ^ 64) (hh : hi < 2 ^ 64) (hn : (isNaN lo || isNaN hi) = false) (h1 : codeOf lo = kcode kl) (h2 : codeOf hi = kcode kh) (hB : isCode (kcode kh - 1) = true) :
  Calls Tryz.prog 36 #[.agg #[.float .f64 lo, .float .f64 hi, .bool false, .bool true]] w (Ret (ofEnd (kcode kl) (kcode kh - 1)) w) := by
 have hn1 : isNaN lo = false := by cases h : isNaN lo <;> simp_all
 have hn2 : isNaN hi = false := by cases h : isNaN hi <;> simp_all
 have h0 : (kcode kh - 1 == 0) = false := by have := kcode_lo kh; rw [beq_eq_false_iff_ne]; omega
 have BD := hid (show _ ∧ _ ∧ _ ∧ _ from ⟨kcode_lo kl, kcode_hi kl, kcode_lo kh, kcode_hi kh⟩)
 clear hn
 have w3 := wrap_m1 kh
 go_enter Tryz.func36, Tryz.ntmps36
 go_wp2_with (first | (go_at_call 84; (with_reducible refine (refNan_any _ (by assumption) _).mono ?_); rintro e w' ⟨rfl, rfl⟩))
 go_quiet ((go_at_call 86; exact Calls.quiet_of_same ((refCode_any _ (by assumption) _).mono fun _ _ ⟨hq1, hq2⟩ => ⟨hq1, hq2.symm⟩)))
 go_wp2_with (first | (go_at_call 87; (with_reducible refine (refIsCode_any _ (by have := BD.out; omega) (by have := BD.out; omega) _).mono ?_); rintro e w' ⟨rfl, rfl⟩) | (go_at_call 85; (with_reducible refine (refNone_any _).mono ?_); rintro e w1 ⟨rfl, hb1⟩; refine mB hb1 ?_; intro hc1 hf1 hz1; intros))
 all_goals first
  | exact bodyPost_ret (v := rgv none) (by simp [results, Tryz.results36, go_sem, *]) rfl ⟨(by first | exact ofEnd_n1 (by assumption) | exact ofEnd_n2 (by assumption) | exact ofEnd_n3 (by assumption)), by exact below_auto⟩
  | exact bodyPost_ret (v := .agg #[.int .u64 (kcode kl), .int .u64 (kcode kh - 1)]) (by simp [results, Tryz.results36, go_sem, *]) rfl ⟨ofEnd_s (by assumption) (by assumption) (by assumption) (by assumption), by exact below_auto⟩

theorem refOf_fn (lo hi : Nat) (kl kh : Key) (w : World) (hl : lo < 2 ^ 64) (hh : hi < 2 ^ 64) (hn : (isNaN lo || isNaN hi) = false) (h1 : codeOf lo = kcode kl) (h2 : codeOf hi = kcode kh) (hB : isCode (kcode kh - 1) = false) :
  Calls Tryz.prog 36 #[.agg #[.float .f64 lo, .float .f64 hi, .bool false, .bool true]] w (Ret (ofEnd (kcode kl) (kcode kh - 1 - 1)) w) := by
 have hn1 : isNaN lo = false := by cases h : isNaN lo <;> simp_all
 have hn2 : isNaN hi = false := by cases h : isNaN hi <;> simp_all
 have h0 : (kcode kh - 1 - 1 == 0) = false := by have := kcode_lo kh; rw [beq_eq_false_iff_ne]; omega
 have BD := hid (show _ ∧ _ ∧ _ ∧ _ from ⟨kcode_lo kl, kcode_hi kl, kcode_lo kh, kcode_hi kh⟩)
 clear hn
 have w3 := wrap_m1 kh
 have w4 := wrap_m2 kh
 go_enter Tryz.func36, Tryz.ntmps36
 go_wp2_with (first | (go_at_call 84; (with_reducible refine (refNan_any _ (by assumption) _).mono ?_); rintro e w' ⟨rfl, rfl⟩))
 go_quiet ((go_at_call 86; exact Calls.quiet_of_same ((refCode_any _ (by assumption) _).mono fun _ _ ⟨hq1, hq2⟩ => ⟨hq1, hq2.symm⟩)))
 go_wp2_with (first | (go_at_call 87; (with_reducible refine (refIsCode_any _ (by have := BD.out; omega) (by have := BD.out; omega) _).mono ?_); rintro e w' ⟨rfl, rfl⟩) | (go_at_call 85; (with_reducible refine (refNone_any _).mono ?_); rintro e w1 ⟨rfl, hb1⟩; refine mB hb1 ?_; intro hc1 hf1 hz1; intros))
 all_goals first
  | exact bodyPost_ret (v := rgv none) (by simp [results, Tryz.results36, go_sem, *]) rfl ⟨(by first | exact ofEnd_n1 (by assumption) | exact ofEnd_n2 (by assumption) | exact ofEnd_n3 (by assumption)), by exact below_auto⟩
  | exact bodyPost_ret (v := .agg #[.int .u64 (kcode kl), .int .u64 (kcode kh - 1 - 1)]) (by simp [results, Tryz.results36, go_sem, *]) rfl ⟨ofEnd_s (by assumption) (by assumption) (by assumption) (by assumption), by exact below_auto⟩

theorem refOf_yf (lo hi : Nat) (kl kh : Key) (w : World) (hl : lo < 2 ^ 64) (hh : hi < 2 ^ 64) (hn : (isNaN lo || isNaN hi) = false) (h1 : codeOf lo = kcode kl) (h2 : codeOf hi = kcode kh) (hA : isCode (kcode kl + 1) = true) :
  Calls Tryz.prog 36 #[.agg #[.float .f64 lo, .float .f64 hi, .bool true, .bool false]] w (Ret (ofEnd (kcode kl + 1) (kcode kh)) w) := by
 have hn1 : isNaN lo = false := by cases h : isNaN lo <;> simp_all
 have hn2 : isNaN hi = false := by cases h : isNaN hi <;> simp_all
 have h0 : (kcode kh == 0) = false := by have := kcode_lo kh; rw [beq_eq_false_iff_ne]; omega
 have BD := hid (show _ ∧ _ ∧ _ ∧ _ from ⟨kcode_lo kl, kcode_hi kl, kcode_lo kh, kcode_hi kh⟩)
 clear hn
 have w1 := wrap_k1 kl
 go_enter Tryz.func36, Tryz.ntmps36
 go_wp2_with (first | (go_at_call 84; (with_reducible refine (refNan_any _ (by assumption) _).mono ?_); rintro e w' ⟨rfl, rfl⟩))
 go_quiet ((go_at_call 86; exact Calls.quiet_of_same ((refCode_any _ (by assumption) _).mono fun _ _ ⟨hq1, hq2⟩ => ⟨hq1, hq2.symm⟩)))
 go_wp2_with (first | (go_at_call 87; (with_reducible refine (refIsCode_any _ (by have := BD.out; omega) (by have := BD.out; omega) _).mono ?_); rintro e w' ⟨rfl, rfl⟩) | (go_at_call 85; (with_reducible refine (refNone_any _).mono ?_); rintro e w1 ⟨rfl, hb1⟩; refine mB hb1 ?_; intro hc1 hf1 hz1; intros))
 all_goals first
  | exact bodyPost_ret (v := rgv none) (by simp [results, Tryz.results36, go_sem, *]) rfl ⟨(by first | exact ofEnd_n1 (by assumption) | exact ofEnd_n2 (by assumption) | exact ofEnd_n3 (by assumption)), by exact below_auto⟩
  | exact bodyPost_ret (v := .agg #[.int .u64 (kcode kl + 1), .int .u64 (kcode kh)]) (by simp [results, Tryz.results36, go_sem, *]) rfl ⟨ofEnd_s (by assumption) (by assumption) (by assumption) (by assumption), by exact below_auto⟩

theorem refOf_yy (lo hi : Nat) (kl kh : Key) (w : World) (hl : lo < 2 ^ 64) (hh : hi < 2 ^ 64) (hn : (isNaN lo || isNaN hi) = false) (h1 : codeOf lo = kcode kl) (h2 : codeOf hi = kcode kh) (hA : isCode (kcode kl + 1) = true) (hB : isCode (kcode kh - 1) = true) :
  Calls Tryz.prog 36 #[.agg #[.float .f64 lo, .float .f64 hi, .bool true, .bool true]] w (Ret (ofEnd (kcode kl + 1) (kcode kh - 1)) w) := by
 have hn1 : isNaN lo = false := by cases h : isNaN lo <;> simp_all
 have hn2 : isNaN hi = false := by cases h : isNaN hi <;> simp_all
 have h0 : (kcode kh - 1 == 0) = false := by have := kcode_lo kh; rw [beq_eq_false_iff_ne]; omega
 have BD := hid (show _ ∧ _ ∧ _ ∧ _ from ⟨kcode_lo kl, kcode_hi kl, kcode_lo kh, kcode_hi kh⟩)
 clear hn
 have w1 := wrap_k1 kl
 have w3 := wrap_m1 kh
 go_enter Tryz.func36, Tryz.ntmps36
 go_wp2_with (first | (go_at_call 84; (with_reducible refine (refNan_any _ (by assumption) _).mono ?_); rintro e w' ⟨rfl, rfl⟩))
 go_quiet ((go_at_call 86; exact Calls.quiet_of_same ((refCode_any _ (by assumption) _).mono fun _ _ ⟨hq1, hq2⟩ => ⟨hq1, hq2.symm⟩)))
 go_wp2_with (first | (go_at_call 87; (with_reducible refine (refIsCode_any _ (by have := BD.out; omega) (by have := BD.out; omega) _).mono ?_); rintro e w' ⟨rfl, rfl⟩) | (go_at_call 85; (with_reducible refine (refNone_any _).mono ?_); rintro e w1 ⟨rfl, hb1⟩; refine mB hb1 ?_; intro hc1 hf1 hz1; intros))
 all_goals first
  | exact bodyPost_ret (v := rgv none) (by simp [results, Tryz.results36, go_sem, *]) rfl ⟨(by first | exact ofEnd_n1 (by assumption) | exact ofEnd_n2 (by assumption) | exact ofEnd_n3 (by assumption)), by exact below_auto⟩
  | exact bodyPost_ret (v := .agg #[.int .u64 (kcode kl + 1), .int .u64 (kcode kh - 1)]) (by simp [results, Tryz.results36, go_sem, *]) rfl ⟨ofEnd_s (by assumption) (by assumption) (by assumption) (by assumption), by exact below_auto⟩

theorem refOf_yn (lo hi : Nat) (kl kh : Key) (w : World) (hl : lo < 2 ^ 64) (hh : hi < 2 ^ 64) (hn : (isNaN lo || isNaN hi) = false) (h1 : codeOf lo = kcode kl) (h2 : codeOf hi = kcode kh) (hA : isCode (kcode kl + 1) = true) (hB : isCode (kcode kh - 1) = false) :
  Calls Tryz.prog 36 #[.agg #[.float .f64 lo, .float .f64 hi, .bool true, .bool true]] w (Ret (ofEnd (kcode kl + 1) (kcode kh - 1 - 1)) w) := by
 have hn1 : isNaN lo = false := by cases h : isNaN lo <;> simp_all
 have hn2 : isNaN hi = false := by cases h : isNaN hi <;> simp_all
 have h0 : (kcode kh - 1 - 1 == 0) = false := by have := kcode_lo kh; rw [beq_eq_false_iff_ne]; omega
 have BD := hid (show _ ∧ _ ∧ _ ∧ _ from ⟨kcode_lo kl, kcode_hi kl, kcode_lo kh, kcode_hi kh⟩)
 clear hn
 have w1 := wrap_k1 kl
 have w3 := wrap_m1 kh
 have w4 := wrap_m2 kh
 go_enter Tryz.func36, Tryz.ntmps36
 go_wp2_with (first | (go_at_call 84; (with_reducible refine (refNan_any _ (by assumption) _).mono ?_); rintro e w' ⟨rfl, rfl⟩))
 go_quiet ((go_at_call 86; exact Calls.quiet_of_same ((refCode_any _ (by assumption) _).mono fun _ _ ⟨hq1, hq2⟩ => ⟨hq1, hq2.symm⟩)))
 go_wp2_with (first | (go_at_call 87; (with_reducible refine (refIsCode_any _ (by have := BD.out; omega) (by have := BD.out; omega) _).mono ?_); rintro e w' ⟨rfl, rfl⟩) | (go_at_call 85; (with_reducible refine (refNone_any _).mono ?_); rintro e w1 ⟨rfl, hb1⟩; refine mB hb1 ?_; intro hc1 hf1 hz1; intros))
 all_goals first
  | exact bodyPost_ret (v := rgv none) (by simp [results, Tryz.results36, go_sem, *]) rfl ⟨(by first | exact ofEnd_n1 (by assumption) | exact ofEnd_n2 (by assumption) | exact ofEnd_n3 (by assumption)), by exact below_auto⟩
  | exact bodyPost_ret (v := .agg #[.int .u64 (kcode kl + 1), .int .u64 (kcode kh - 1 - 1)]) (by simp [results, Tryz.results36, go_sem, *]) rfl ⟨ofEnd_s (by assumption) (by assumption) (by assumption) (by assumption), by exact below_auto⟩

theorem refOf_nf (lo hi : Nat) (kl kh : Key) (w : World) (hl : lo < 2 ^ 64) (hh : hi < 2 ^ 64) (hn : (isNaN lo || isNaN hi) = false) (h1 : codeOf lo = kcode kl) (h2 : codeOf hi = kcode kh) (hA : isCode (kcode kl + 1) = false) :
  Calls Tryz.prog 36 #[.agg #[.float .f64 lo, .float .f64 hi, .bool true, .bool false]] w (Ret (ofEnd (kcode kl + 1 + 1) (kcode kh)) w) := by
 have hn1 : isNaN lo = false := by cases h : isNaN lo <;> simp_all
 have hn2 : isNaN hi = false := by cases h : isNaN hi <;> simp_all
 have h0 : (kcode kh == 0) = false := by have := kcode_lo kh; rw [beq_eq_false_iff_ne]; omega
 have BD := hid (show _ ∧ _ ∧ _ ∧ _ from ⟨kcode_lo kl, kcode_hi kl, kcode_lo kh, kcode_hi kh⟩)
 clear hn
 have w1 := wrap_k1 kl
 have w2 := wrap_k2 kl
 go_enter Tryz.func36, Tryz.ntmps36
 go_wp2_with (first | (go_at_call 84; (with_reducible refine (refNan_any _ (by assumption) _).mono ?_); rintro e w' ⟨rfl, rfl⟩))
 go_quiet ((go_at_call 86; exact Calls.quiet_of_same ((refCode_any _ (by assumption) _).mono fun _ _ ⟨hq1, hq2⟩ => ⟨hq1, hq2.symm⟩)))
 go_wp2_with (first | (go_at_call 87; (with_reducible refine (refIsCode_any _ (by have := BD.out; omega) (by have := BD.out; omega) _).mono ?_); rintro e w' ⟨rfl, rfl⟩) | (go_at_call 85; (with_reducible refine (refNone_any _).mono ?_); rintro e w1 ⟨rfl, hb1⟩; refine mB hb1 ?_; intro hc1 hf1 hz1; intros))
 all_goals first
  | exact bodyPost_ret (v := rgv none) (by simp [results, Tryz.results36, go_sem, *]) rfl ⟨(by first | exact ofEnd_n1 (by assumption) | exact ofEnd_n2 (by assumption) | exact ofEnd_n3 (by assumption)), by exact below_auto⟩
  | exact bodyPost_ret (v := .agg #[.int .u64 (kcode kl + 1 + 1), .int .u64 (kcode kh)]) (by simp [results, Tryz.results36, go_sem, *]) rfl ⟨ofEnd_s (by assumption) (by assumption) (by assumption) (by assumption), by exact below_auto⟩

theorem refOf_ny (lo hi : Nat) (kl kh : Key) (w : World) (hl : lo < 2 ^ 64) (hh : hi < 2 ^ 64) (hn : (isNaN lo || isNaN hi) = false) (h1 : codeOf lo = kcode kl) (h2 : codeOf hi = kcode kh) (hA : isCode (kcode kl + 1) = false) (hB : isCode (kcode kh - 1) = true) :
  Calls Tryz.prog 36 #[.agg #[.float .f64 lo, .float .f64 hi, .bool true, .bool true]] w (Ret (ofEnd (kcode kl + 1 + 1) (kcode kh - 1)) w) := by
 have hn1 : isNaN lo = false := by cases h : isNaN lo <;> simp_all
 have hn2 : isNaN hi = false := by cases h : isNaN hi <;> simp_all
 have h0 : (kcode kh - 1 == 0) = false := by have := kcode_lo kh; rw [beq_eq_false_iff_ne]; omega
 have BD := hid (show _ ∧ _ ∧ _ ∧ _ from ⟨kcode_lo kl, kcode_hi kl, kcode_lo kh, kcode_hi kh⟩)
 clear hn
 have w1 := wrap_k1 kl
 have w2 := wrap_k2 kl
 have w3 := wrap_m1 kh
 go_enter Tryz.func36, Tryz.ntmps36
 go_wp2_with (first | (go_at_call 84; (with_reducible refine (refNan_any _ (by assumption) _).mono ?_); rintro e w' ⟨rfl, rfl⟩))
 go_quiet ((go_at_call 86; exact Calls.quiet_of_same ((refCode_any _ (by assumption) _).mono fun _ _ ⟨hq1, hq2⟩ => ⟨hq1, hq2.symm⟩)))
 go_wp2_with (first | (go_at_call 87; (with_reducible refine (refIsCode_any _ (by have := BD.out; omega) (by have := BD.out; omega) _).mono ?_); rintro e w' ⟨rfl, rfl⟩) | (go_at_call 85; (with_reducible refine (refNone_any _).mono ?_); rintro e w1 ⟨rfl, hb1⟩; refine mB hb1 ?_; intro hc1 hf1 hz1; intros))
 all_goals first
  | exact bodyPost_ret (v := rgv none) (by simp [results, Tryz.results36, go_sem, *]) rfl ⟨(by first | exact ofEnd_n1 (by assumption) | exact ofEnd_n2 (by assumption) | exact ofEnd_n3 (by assumption)), by exact below_auto⟩
  | exact bodyPost_ret (v := .agg #[.int .u64 (kcode kl + 1 + 1), .int .u64 (kcode kh - 1)]) (by simp [results, Tryz.results36, go_sem, *]) rfl ⟨ofEnd_s (by assumption) (by assumption) (by assumption) (by assumption), by exact below_auto⟩

theorem refOf_nn (lo hi : Nat) (kl kh : Key) (w : World) (hl : lo < 2 ^ 64) (hh : hi < 2 ^ 64) (hn : (isNaN lo || isNaN hi) = false) (h1 : codeOf lo = kcode kl) (h2 : codeOf hi = kcode kh) (hA : isCode (kcode kl + 1) = false) (hB : isCode (kcode kh - 1) = false) :
  Calls Tryz.prog 36 #[.agg #[.float .f64 lo, .float .f64 hi, .bool true, .bool true]] w (Ret (ofEnd (kcode kl + 1 + 1) (kcode kh - 1 - 1)) w) := by
 have hn1 : isNaN lo = false := by cases h : isNaN lo <;> simp_all
 have hn2 : isNaN hi = false := by cases h : isNaN hi <;> simp_all
 have h0 : (kcode kh - 1 - 1 == 0) = false := by have := kcode_lo kh; rw [beq_eq_false_iff_ne]; omega
 have BD := hid (show _ ∧ _ ∧ _ ∧ _ from ⟨kcode_lo kl, kcode_hi kl, kcode_lo kh, kcode_hi kh⟩)
 clear hn
 have w1 := wrap_k1 kl
 have w2 := wrap_k2 kl
 have w3 := wrap_m1 kh
 have w4 := wrap_m2 kh
 go_enter Tryz.func36, Tryz.ntmps36
 go_wp2_with (first | (go_at_call 84; (with_reducible refine (refNan_any _ (by assumption) _).mono ?_); rintro e w' ⟨rfl, rfl⟩))
 go_quiet ((go_at_call 86; exact Calls.quiet_of_same ((refCode_any _ (by assumption) _).mono fun _ _ ⟨hq1, hq2⟩ => ⟨hq1, hq2.symm⟩)))
 go_wp2_with (first | (go_at_call 87; (with_reducible refine (refIsCode_any _ (by have := BD.out; omega) (by have := BD.out; omega) _).mono ?_); rintro e w' ⟨rfl, rfl⟩) | (go_at_call 85; (with_reducible refine (refNone_any _).mono ?_); rintro e w1 ⟨rfl, hb1⟩; refine mB hb1 ?_; intro hc1 hf1 hz1; intros))
 all_goals first
  | exact bodyPost_ret (v := rgv none) (by simp [results, Tryz.results36, go_sem, *]) rfl ⟨(by first | exact ofEnd_n1 (by assumption) | exact ofEnd_n2 (by assumption) | exact ofEnd_n3 (by assumption)), by exact below_auto⟩
  | exact bodyPost_ret (v := .agg #[.int .u64 (kcode kl + 1 + 1), .int .u64 (kcode kh - 1 - 1)]) (by simp [results, Tryz.results36, go_sem, *]) rfl ⟨ofEnd_s (by assumption) (by assumption) (by assumption) (by assumption), by exact below_auto⟩

end Go.Proofs.YtfbachckdadhoaaGreat
namespace Go.Proofs.YtfbachckdadhoaaGreat
set_option linter.unusedVariables false
open Go.RowKit Fl

def nlo (k : Key) : Int := if isCode (kcode k + 1) then kcode k + 1 else kcode k + 1 + 1
def nhi (k : Key) : Int := if isCode (kcode k - 1) then kcode k - 1 else kcode k - 1 - 1

theorem kcode_nn {k : Key} (h : 0 ≤ k.v) : kcode k = k.v + 9223372036854775808 := by unfold kcode; rw [if_pos h]
theorem kcode_neg {k : Key} (h : ¬ 0 ≤ k.v) : kcode k = k.v + 9223372036854775807 := by unfold kcode; rw [if_neg h]
theorem isCode_iff (u : Int) : isCode u = true ↔ (u = 0 ∨ (9223372036854775808 ≤ u ∧ u ≤ 18442240474082181120) ∨ (4503599627370495 ≤ u ∧ u < 9223372036854775807)) := by
 unfold isCode; simp [or_assoc]
theorem isCode_not (u : Int) : isCode u = false ↔ ¬ (u = 0 ∨ (9223372036854775808 ≤ u ∧ u ≤ 18442240474082181120) ∨ (4503599627370495 ≤ u ∧ u < 9223372036854775807)) := by
 rw [← isCode_iff]; simp
theorem kbd (k : Key) : -9218868437227405312 ≤ k.v ∧ k.v ≤ 9218868437227405312 := by
 have h1 := k.lo; have h2 := k.hi; unfold inf at *; omega
theorem vtop {k : Key} : k.v ≠ (inf : Int) ↔ k.v ≠ 9218868437227405312 := by unfold inf; exact Iff.rfl
theorem vbot {k : Key} : k.v ≠ -(inf : Int) ↔ k.v ≠ -9218868437227405312 := by unfold inf; exact Iff.rfl
theorem nlo_next {k : Key} (h : k.v ≠ (inf : Int)) : nlo k = kcode (knext k) := by
 have hb := kbd k
 have hv := knext_v h
 rw [vtop] at h
 unfold nlo
 by_cases h3 : 0 ≤ k.v
 ·have e1 := kcode_nn h3
  have e2 := kcode_nn (k := knext k) (by omega)
  rw [if_pos (by rw [isCode_iff]; omega)]; omega
 ·have e1 := kcode_neg h3
  by_cases h4 : k.v = -1
  ·have e2 := kcode_nn (k := knext k) (by omega)
   rw [if_neg (by rw [isCode_iff]; omega)]; omega
  ·have e2 := kcode_neg (k := knext k) (by omega)
   rw [if_pos (by rw [isCode_iff]; omega)]; omega
theorem nhi_prev {k : Key} (h : k.v ≠ -(inf : Int)) : nhi k = kcode (kprev k) := by
 have hb := kbd k
 have hv := kprev_v h
 rw [vbot] at h
 unfold nhi
 by_cases h3 : 0 < k.v
 ·have e1 := kcode_nn (k := k) (by omega)
  have e2 := kcode_nn (k := kprev k) (by omega)
  rw [if_pos (by rw [isCode_iff]; omega)]; omega
 ·by_cases h4 : k.v = 0
  ·have e1 := kcode_nn (k := k) (by omega)
   have e2 := kcode_neg (k := kprev k) (by omega)
   rw [if_neg (by rw [isCode_iff]; omega)]; omega
  ·have e1 := kcode_neg (k := k) (by omega)
   have e2 := kcode_neg (k := kprev k) (by omega)
   rw [if_pos (by rw [isCode_iff]; omega)]; omega

theorem ofEnd_key (l h : Key) : ofEnd (kcode l) (kcode h) = rgv (if l.v ≤ h.v then some (l, h) else none) := by
 have h0 : (kcode h == 0) = false := by have := kcode_lo h; rw [beq_eq_false_iff_ne]; omega
 unfold ofEnd endB
 rw [isCode_key, isCode_key, h0]
 by_cases h1 : l.v ≤ h.v
 ·have : ¬ kcode h < kcode l := by rw [kcode_lt]; omega
  simp [this, h1, rgv]
 ·have : kcode h < kcode l := by rw [kcode_lt]; omega
  simp [this, h1, rgv]
theorem ofEnd_bad {x y : Int} (h : isCode x = false ∨ isCode y = false) : ofEnd x y = rgv none := by
 unfold ofEnd endB
 rw [if_pos]
 ·rfl
 ·rcases h with h | h <;> simp [h]

theorem nlo_top {k : Key} (h : k.v = (inf : Int)) : isCode (nlo k) = false := by
 have h' : k.v = 9218868437227405312 := by unfold inf at h; exact h
 have e1 := kcode_nn (k := k) (by omega)
 unfold nlo
 rw [if_neg (by rw [isCode_iff]; omega), isCode_not]; omega
theorem nhi_bot {k : Key} (h : k.v = -(inf : Int)) : isCode (nhi k) = false := by
 have h' : k.v = -9218868437227405312 := by unfold inf at h; exact h
 have e1 := kcode_neg (k := k) (by omega)
 unfold nhi
 rw [if_neg (by rw [isCode_iff]; omega), isCode_not]; omega

theorem ofEnd_canon (lo hi : Nat) (a b : Bool) (hn : (isNaN lo || isNaN hi) = false) :
  ofEnd (if a then nlo (kof lo) else kcode (kof lo)) (if b then nhi (kof hi) else kcode (kof hi)) = rgv (canonS lo hi a b) := by
 have hb1 := kbd (kof lo); have hb2 := kbd (kof hi)
 by_cases h1 : a = true ∧ (kof lo).v = (inf : Int)
 ·rw [if_pos h1.1, ofEnd_bad (Or.inl (nlo_top h1.2)), canonS_none]
  rw [if_pos h1.1, h1.2]; unfold inf; split <;> omega
 ·by_cases h2 : b = true ∧ (kof hi).v = -(inf : Int)
  ·rw [if_pos h2.1, ofEnd_bad (Or.inr (nhi_bot h2.2)), canonS_none]
   rw [if_pos h2.1, h2.2]; unfold inf; split <;> omega
  ·obtain ⟨l, hl1, hl2⟩ : ∃ l : Key, (if a then nlo (kof lo) else kcode (kof lo)) = kcode l ∧ l.v = (kof lo).v + (if a then 1 else 0) := by
    cases a
    ·exact ⟨kof lo, by simp, by simp⟩
    ·have : (kof lo).v ≠ (inf : Int) := fun h => h1 ⟨rfl, h⟩
     exact ⟨knext (kof lo), by simp [nlo_next this], by simp [knext_v this]⟩
   obtain ⟨h, hh1, hh2⟩ : ∃ h : Key, (if b then nhi (kof hi) else kcode (kof hi)) = kcode h ∧ h.v = (kof hi).v - (if b then 1 else 0) := by
    cases b
    ·exact ⟨kof hi, by simp, by simp⟩
    ·have : (kof hi).v ≠ -(inf : Int) := fun h => h2 ⟨rfl, h⟩
     exact ⟨kprev (kof hi), by simp [nhi_prev this], by simp [kprev_v this]⟩
   rw [hl1, hh1, ofEnd_key]
   by_cases h3 : l.v ≤ h.v
   ·rw [if_pos h3, canonS_some hn hl2 hh2 h3]
   ·rw [if_neg h3, canonS_none (by omega)]

theorem refOf_any (lo hi : Nat) (a b : Bool) (w : World) (hl : lo < 2 ^ 64) (hh : hi < 2 ^ 64) :
  Calls Tryz.prog 36 #[.agg #[.float .f64 lo, .float .f64 hi, .bool a, .bool b]] w (Ret (rgv (canonS lo hi a b)) w) := by
 cases hn : (isNaN lo || isNaN hi)
 ·have hn1 : isNaN lo = false := by cases h : isNaN lo <;> simp_all
  have hn2 : isNaN hi = false := by cases h : isNaN hi <;> simp_all
  have e1 : codeOf lo = kcode (kof lo) := by simp [codeOf, hn1]
  have e2 : codeOf hi = kcode (kof hi) := by simp [codeOf, hn2]
  rw [← ofEnd_canon lo hi a b hn]
  cases a
  ·cases b
   ·exact refOf_ff lo hi _ _ w hl hh hn e1 e2
   ·cases hB : isCode (kcode (kof hi) - 1)
    ·simp only [nhi, hB]; exact refOf_fn lo hi _ _ w hl hh hn e1 e2 hB
    ·simp only [nhi, hB]; exact refOf_fy lo hi _ _ w hl hh hn e1 e2 hB
  ·cases hA : isCode (kcode (kof lo) + 1)
   ·cases b
    ·simp only [nlo, hA]; exact refOf_nf lo hi _ _ w hl hh hn e1 e2 hA
    ·cases hB : isCode (kcode (kof hi) - 1)
     ·simp only [nlo, nhi, hA, hB]; exact refOf_nn lo hi _ _ w hl hh hn e1 e2 hA hB
     ·simp only [nlo, nhi, hA, hB]; exact refOf_ny lo hi _ _ w hl hh hn e1 e2 hA hB
   ·cases b
    ·simp only [nlo, hA]; exact refOf_yf lo hi _ _ w hl hh hn e1 e2 hA
    ·cases hB : isCode (kcode (kof hi) - 1)
     ·simp only [nlo, nhi, hA, hB]; exact refOf_yn lo hi _ _ w hl hh hn e1 e2 hA hB
     ·simp only [nlo, nhi, hA, hB]; exact refOf_yy lo hi _ _ w hl hh hn e1 e2 hA hB
 ·have e : canonS lo hi a b = none := by simp only [canonS, hn]; simp
  rw [e]
  exact refOf_nan lo hi a b w hl hh hn
end Go.Proofs.YtfbachckdadhoaaGreat
namespace Go.Proofs.YtfbachckdadhoaaGreat
set_option linter.unusedVariables false
open Go.RowKit Fl

def FRow (w : World) (a : Option Addr) (xs : List Nat) : Prop :=
 xs = [] ∨ ∃ b o, a = some ⟨b, o, none⟩ ∧ ∀ i, i < xs.length → w.cell? ⟨b, o + i, none⟩ = some (.float .f64 (xs[i]?.getD 0))

theorem sameKeys_len (a b : Option Addr) (n m ca cb : Nat) (w : World) (h : n ≠ m) :
  Calls Tryz.prog 37 #[.slice a n ca, .slice b m cb] w fun e w' => e = .returned (.bool false) ∧ w = w' := by
 have h1 : ((n : Int) != (m : Int)) = true := by simp; omega
 go_enter Tryz.func37, Tryz.ntmps37
 go_wp2
 go_ret
 exact ⟨rfl, rfl⟩

theorem sameKeys_nil (a b : Option Addr) (ca cb : Nat) (w : World) :
  Calls Tryz.prog 37 #[.slice a 0 ca, .slice b 0 cb] w fun e w' => e = .returned (.bool true) ∧ w = w' := by
 go_enter Tryz.func37, Tryz.ntmps37
 go_wp2
 go_loop [5] (fun i => i = .int .i64 0) (fun _ => 0)
 case atStart => rfl
 case round =>
  subst hrel
  go_wp2
  go_ret
  exact ⟨rfl, rfl⟩

theorem sameKeys_row (b1 o1 b2 o2 : Nat) (ca cb : Nat) (xs ys : List Nat) (w : World) (hl : xs.length = ys.length) (hm : xs.length ≤ maxLen)
  (h1 : ∀ i, i < xs.length → w.cell? ⟨b1, o1 + i, none⟩ = some (.float .f64 (xs[i]?.getD 0)))
  (h2 : ∀ i, i < xs.length → w.cell? ⟨b2, o2 + i, none⟩ = some (.float .f64 (ys[i]?.getD 0))) :
  Calls Tryz.prog 37 #[.slice (some ⟨b1, o1, none⟩) xs.length ca, .slice (some ⟨b2, o2, none⟩) xs.length cb] w fun e w' => e = .returned (.bool (decide (xs = ys))) ∧ ∃ q, w' = w.drewN q := by
 have H1 := hid h1; have H2 := hid h2; have HL := hid hl
 clear h1 h2 hl
 generalize hn : xs.length = n at *
 unfold maxLen at hm
 have HN := hid hn
 clear hn
 go_enter Tryz.func37, Tryz.ntmps37
 go_wp2
 go_loopw [5] (fun i wr => ∃ k : Nat, k ≤ n ∧ i = .int .i64 k ∧ (∀ j, j < k → xs[j]?.getD 0 = ys[j]?.getD 0) ∧ ∃ q, wr = w.drewN q) (fun i _ => n - (intOf i).toNat)
 case atStart => exact ⟨0, Nat.zero_le _, rfl, fun j hj => absurd hj (Nat.not_lt_zero _), 0, rfl⟩
 case round =>
  obtain ⟨k, hk, rfl, hr, q, rfl⟩ := hrel
  have HR := hid hr
  clear hr
  by_cases hlt : k < n
  ·have c1 := H1.out k hlt
   have c2 := H2.out k hlt
   by_cases he : xs[k]?.getD 0 = ys[k]?.getD 0
   ·have ht : (((xs[k]?.getD 0 : Nat) : Int) != ((ys[k]?.getD 0 : Nat) : Int)) = false := by rw [he]; simp
    have HE := hid he
    clear he
    have hb : (k : Int) < (n : Int) := by omega
    go_wp2
    go_quiet (fail)
    go_wp2
    go_roundw
    case rel => exact ⟨k + 1, by omega, by go_num, fun j hj => by
      by_cases h : j < k
      ·exact HR.out j h
      ·obtain rfl : j = k := by omega
       exact HE.out, _, rfl⟩
    case measure => simp [intOf]; omega
   ·have ht : (((xs[k]?.getD 0 : Nat) : Int) != ((ys[k]?.getD 0 : Nat) : Int)) = true := by simp; omega
    have HE := hid he
    clear he
    have hb : (k : Int) < (n : Int) := by omega
    go_wp2
    go_quiet (fail)
    go_wp2
    go_ret
    refine ⟨ret_bool ?_, _, World.drewN_drewN ..⟩
    symm; rw [decide_eq_false_iff_not]
    intro h; exact HE.out (by rw [h])
  ·obtain rfl : k = n := by omega
   go_wp2
   go_ret
   refine ⟨ret_bool ?_, _, rfl⟩
   symm; rw [decide_eq_true_eq]
   apply List.ext_getElem?
   intro j
   by_cases hj : j < k
   ·have := HR.out j hj
    have e1 : xs[j]? = some (xs[j]?.getD 0) := by
     rw [List.getElem?_eq_getElem (by have := HN.out; omega)]; rfl
    have e2 : ys[j]? = some (ys[j]?.getD 0) := by
     rw [List.getElem?_eq_getElem (by have := HN.out; have := HL.out; omega)]; rfl
    rw [e1, e2, this]
   ·rw [List.getElem?_eq_none (by have := HN.out; omega), List.getElem?_eq_none (by have := HN.out; have := HL.out; omega)]

theorem refEmpty_any (l h : Int) (w : World) :
  Calls Tryz.prog 35 #[.agg #[.int .u64 l, .int .u64 h]] w (Ret (.bool (decide (h < l))) w) := by
 go_enter Tryz.func35, Tryz.ntmps35
 go_wp2
 go_ret
 exact ⟨rfl, by exact below_auto⟩

def sameSp (a0 a1 : Nat) (a2 a3 : Bool) (b0 b1 : Nat) (b2 b3 : Bool) : Bool := decide (a2 = b2 ∧ a3 = b3 ∧ a0 = b0 ∧ a1 = b1)

theorem pair_eq (a0 a1 b0 b1 : Nat) : decide ([a0, a1] = [b0, b1]) = (decide (a0 = b0) && decide (a1 = b1)) := by
 simp

theorem sameSpan_any (a0 a1 b0 b1 : Nat) (a2 a3 b2 b3 : Bool) (w : World) :
  Calls Tryz.prog 91 #[.agg #[.float .f64 a0, .float .f64 a1, .bool a2, .bool a3], .agg #[.float .f64 b0, .float .f64 b1, .bool b2, .bool b3]] w (Ret (.bool (sameSp a0 a1 a2 a3 b0 b1 b2 b3)) w) := by
 go_enter Tryz.func91, Tryz.ntmps91
 go_wp2_with fail
 all_goals first
  | (go_ret; exact ⟨ret_bool (by simp [sameSp, *]), by exact below_auto⟩)
  | skip
 ·refine (sameKeys_row (w.heap.size + 1 + 1) 0 (w.heap.size + 1 + 1 + 1) 0 2 2 [a0, a1] [b0, b1] _ rfl (by simp [maxLen]) ?_ ?_).mono ?_
  ·intro i hi
   have : i = 0 ∨ i = 1 := by simp at hi; omega
   rcases this with rfl | rfl <;> simp [go_sem]
  ·intro i hi
   have : i = 0 ∨ i = 1 := by simp at hi; omega
   rcases this with rfl | rfl <;> simp [go_sem]
  ·rintro e w1 ⟨rfl, q, rfl⟩
   go_wp2
   go_ret
   exact ⟨ret_bool (by simp [sameSp, *]), by exact below_auto⟩

theorem refSpan_none (w : World) :
  Calls Tryz.prog 68 #[rgv none] w (Ret (spv none) w) := by
 rw [rgv_none]
 go_enter Tryz.func68, Tryz.ntmps68
 go_wp2_with (go_at_call 35; (with_reducible refine (refEmpty_any _ _ _).mono ?_); rintro e w1 ⟨rfl, hb1⟩; refine mB hb1 ?_; intro hc1 hf1 hz1; intros)
 exact bodyPost_ret (v := spv none) (by simp [results, Tryz.results68, go_sem, *]) rfl ⟨rfl, by exact below_auto⟩

set_option maxRecDepth 100000 in
theorem refSpan_some (l h : Key) (hlh : l.v ≤ h.v) (w : World) :
  Calls Tryz.prog 68 #[rgv (some (l, h))] w (Ret (spv (some (l, h))) w) := by
 have h1 : decide (kcode h < kcode l) = false := by rw [decide_eq_false_iff_not, kcode_lt]; omega
 clear hlh
 rw [rgv_some]
 go_enter Tryz.func68, Tryz.ntmps68
 go_wp2_with (go_at_call 35; (with_reducible refine (refEmpty_any _ _ _).mono ?_); rintro e w1 ⟨rfl, hb1⟩; refine mB hb1 ?_; intro hc1 hf1 hz1; intros)
 (refine wp_region_still_tail 7 (by kernel_rfl) (by kernel_rfl) ?_; simp only [List.take_succ_cons, List.take_zero, List.drop_succ_cons, List.drop_zero]; (repeat (first | still_step | (still_call ((refOfCode_any _ _).mono fun _ _ ⟨hq1, hq2⟩ => ⟨hq1, hq2.symm⟩)))); refine wpStill_nil ?_; change wpList _ _ _ _ _ (World.drew w1))
 go_wp2
 exact bodyPost_ret (v := spv (some (l, h))) (by simp [results, Tryz.results68, go_sem, *]) rfl ⟨rfl, by exact below_auto⟩
end Go.Proofs.YtfbachckdadhoaaGreat
namespace Go.Proofs.YtfbachckdadhoaaGreat
set_option linter.unusedVariables false
open Go.RowKit Fl

def inRange (x y : Int) (key : Nat) : Bool := !isNaN key && decide (x ≤ codeOf key) && decide (codeOf key ≤ y)

theorem refHas_any (x y : Int) (key : Nat) (w : World) (hk : key < 2 ^ 64) :
  Calls Tryz.prog 93 #[.agg #[.int .u64 x, .int .u64 y], .float .f64 key] w (Ret (.bool (inRange x y key)) w) := by
 cases hn : isNaN key
 ·by_cases h1 : x ≤ codeOf key
  ·go_enter Tryz.func93, Tryz.ntmps93
   go_wp2_with (first | (go_at_call 86; (with_reducible refine (refCode_any _ hk _).mono ?_); rintro e w' ⟨rfl, rfl⟩) | (go_at_call 84; (with_reducible refine (refNan_any _ hk _).mono ?_); rintro e w' ⟨rfl, rfl⟩))
   go_ret
   exact ⟨ret_bool (by simp [inRange, hn, h1]), by exact below_auto⟩
  ·have h1' : decide (x ≤ codeOf key) = false := by simpa using h1
   go_enter Tryz.func93, Tryz.ntmps93
   go_wp2_with (first | (go_at_call 86; (with_reducible refine (refCode_any _ hk _).mono ?_); rintro e w' ⟨rfl, rfl⟩) | (go_at_call 84; (with_reducible refine (refNan_any _ hk _).mono ?_); rintro e w' ⟨rfl, rfl⟩))
   go_ret
   exact ⟨ret_bool (by simp [inRange, h1']), by exact below_auto⟩
 ·go_enter Tryz.func93, Tryz.ntmps93
  go_wp2_with (first | (go_at_call 86; (with_reducible refine (refCode_any _ hk _).mono ?_); rintro e w' ⟨rfl, rfl⟩) | (go_at_call 84; (with_reducible refine (refNan_any _ hk _).mono ?_); rintro e w' ⟨rfl, rfl⟩))
  go_ret
  exact ⟨ret_bool (by simp [inRange, hn]), by exact below_auto⟩

theorem hasB_some (l h : Key) (key : Nat) : hasB (some (l, h)) key = (!isNaN key && decide (l.v ≤ (kof key).v) && decide ((kof key).v ≤ h.v)) := by
 simp only [hasB, fle, Key.bits_nan, Key.kof_bits]
 cases isNaN key <;> simp

theorem inRange_none (key : Nat) : inRange 1 0 key = false := by
 unfold inRange
 cases isNaN key
 ·simp; omega
 ·simp
theorem inRange_some (l h : Key) (key : Nat) : inRange (kcode l) (kcode h) key = hasB (some (l, h)) key := by
 rw [hasB_some]
 unfold inRange codeOf
 cases isNaN key
 ·have e1 : ∀ a b : Key, (kcode a ≤ kcode b) ↔ a.v ≤ b.v := fun a b => by have := kcode_lt b a; omega
  simp [e1]
 ·simp

theorem refHas_rg (r : Rg) (key : Nat) (w : World) (hk : key < 2 ^ 64) :
  Calls Tryz.prog 93 #[rgv r, .float .f64 key] w (Ret (.bool (hasB r key)) w) := by
 rcases r with _ | ⟨l, h⟩
 ·have h1 := refHas_any 1 0 key w hk
  rw [inRange_none] at h1
  exact h1
 ·have h1 := refHas_any (kcode l) (kcode h) key w hk
  rw [inRange_some] at h1
  exact h1

theorem has_plain (lo hi : Nat) (a b : Bool) (key : Nat) :
  hasB (canonS lo hi a b) key = ((flt lo key || feq key lo && !a) && (flt key hi || feq key hi && !b)) := by
 obtain ⟨r, hr⟩ : ∃ r, canonS lo hi a b = r := ⟨_, rfl⟩
 cases hn1 : isNaN lo
 ·cases hn2 : isNaN hi
  ·cases hn3 : isNaN key
   ·have e : hasB (canonS lo hi a b) key = decide ((kof lo).v + (if a then 1 else 0) ≤ (kof key).v ∧ (kof key).v ≤ (kof hi).v - (if b then 1 else 0)) := by
     by_cases h : (kof lo).v + (if a then 1 else 0) ≤ (kof hi).v - (if b then 1 else 0)
     ·unfold canonS
      rw [if_neg (by simp [hn1, hn2]), dif_pos h, hasB_some, hn3]
      simp
     ·rw [canonS_none h]
      simp only [hasB]
      symm; rw [decide_eq_false_iff_not]; omega
    rw [e]
    simp only [flt, feq, hn1, hn2, hn3]
    rw [Bool.eq_iff_iff]
    cases a <;> cases b <;> simp <;> omega
   ·have : hasB (canonS lo hi a b) key = false := by
     rw [hr]; rcases r with _ | ⟨l, h⟩
     ·rfl
     ·rw [hasB_some]; simp [hn3]
    simp [this, flt, feq, hn3]
  ·simp [canonS, hn2, flt, feq, hasB]
 ·simp [canonS, hn1, flt, feq, hasB]

theorem refHas_is (r : Rg) (key : Nat) (v : Bool) (w : World) (hk : key < 2 ^ 64) (hv : Hid (hasB r key = v)) :
  Calls Tryz.prog 93 #[rgv r, .float .f64 key] w (Ret (.bool v) w) := by
 have h := refHas_rg r key w hk
 rw [hv.out] at h
 exact h
end Go.Proofs.YtfbachckdadhoaaGreat
namespace Go.Proofs.YtfbachckdadhoaaGreat
set_option linter.unusedVariables false
open Go.RowKit Fl

@[go_sem] theorem run_equalIn_float (d : Nat) (a b : Nat) (w : World) : (Op.equalIn (d + 1) 45 (.float .f64 a) (.float .f64 b)).run Tryz.prog w = .ok (feq a b) w := by
 rw [← ord_eq]
 simp [Op.equalIn, run_underlying Tryz.underlying45, Op.floatEq]

def klit (n : Nat) (h : n ≤ inf) : Key := ⟨n, by omega, by omega⟩
theorem klit_bits (n : Nat) (h : n ≤ inf) : (klit n h).bits = n := by
 unfold Key.bits klit; rw [if_pos (by simp only; omega)]; rfl
theorem klit_nan (n : Nat) (h : n ≤ inf) : isNaN n = false := by rw [← klit_bits n h]; exact Key.bits_nan _
theorem klit_kof (n : Nat) (h : n ≤ inf) : kof n = klit n h := by
 have := Key.kof_bits (klit n h); rw [klit_bits] at this; exact this
theorem canonS_lit (a b : Nat) (ha : a ≤ inf) (hb : b ≤ inf) (h : a ≤ b) : canonS a b false false = some (klit a ha, klit b hb) := by
 refine canonS_some (by simp [klit_nan a ha, klit_nan b hb]) ?_ ?_ ?_
 ·rw [klit_kof a ha]; simp
 ·rw [klit_kof b hb]; simp
 ·unfold klit; simp only; omega

theorem at_spv (a b : Nat) (ha : a ≤ inf) (hb : b ≤ inf) : spv (some (klit a ha, klit b hb)) = .agg #[.float .f64 a, .float .f64 b, .bool false, .bool false] := by
 rw [spv_some, klit_bits, klit_bits]

theorem canon_lit (a b : Nat) (ha : a ≤ inf) (hb : b ≤ inf) (h : a ≤ b) (w : World) :
  Calls Tryz.prog 144 #[.agg #[.float .f64 a, .float .f64 b, .bool false, .bool false]] w (Ret (.agg #[.float .f64 a, .float .f64 b, .bool false, .bool false]) w) := by
 have h1 := canon_any a b false false w (by unfold inf at ha; omega) (by unfold inf at hb; omega)
 rw [canonS_lit a b ha hb h, at_spv] at h1
 exact h1

theorem feq_lit (a : Nat) (ha : a ≤ inf) : feq a a = true := by rw [feq_self, klit_nan a ha]; rfl

theorem canonS_le {lo hi : Nat} {a b : Bool} {l h : Key} (e : canonS lo hi a b = some (l, h)) : l.v ≤ h.v := by
 by_cases hlh : (kof lo).v + (if a then 1 else 0) ≤ (kof hi).v - (if b then 1 else 0)
 ·by_cases hn : (isNaN lo || isNaN hi) = true
  ·unfold canonS at e; rw [if_pos hn] at e; cases e
  ·unfold canonS at e
   rw [if_neg hn, dif_pos hlh] at e
   rw [Option.some.injEq, Prod.mk.injEq] at e
   rw [← e.1, ← e.2]; exact hlh
 ·rw [canonS_none hlh] at e; cases e

theorem refOf_is (lo hi : Nat) (a b : Bool) (r : Rg) (w : World) (hl : lo < 2 ^ 64) (hh : hi < 2 ^ 64) (hr : Hid (canonS lo hi a b = r)) :
  Calls Tryz.prog 36 #[.agg #[.float .f64 lo, .float .f64 hi, .bool a, .bool b]] w (Ret (rgv r) w) := by
 have h := refOf_any lo hi a b w hl hh
 rw [hr.out] at h
 exact h
theorem empty_is (lo hi : Nat) (a b : Bool) (r : Bool) (w : World) (hl : lo < 2 ^ 64) (hh : hi < 2 ^ 64) (hr : Hid ((canonS lo hi a b).isNone = r)) :
  Calls Tryz.prog 99 #[.agg #[.float .f64 lo, .float .f64 hi, .bool a, .bool b]] w (Ret (.bool r) w) := by
 have h := empty_any lo hi a b w hl hh
 rw [hr.out] at h
 exact h
theorem canonS_num {lo hi : Nat} {a b : Bool} {r : Key × Key} (e : canonS lo hi a b = some r) : isNaN lo = false ∧ isNaN hi = false := by
 cases h1 : isNaN lo
 ·cases h2 : isNaN hi
  ·exact ⟨rfl, rfl⟩
  ·unfold canonS at e; rw [if_pos (by simp [h2])] at e; cases e
 ·unfold canonS at e; rw [if_pos (by simp [h1])] at e; cases e

theorem canonS_canon (l h : Key) (hlh : l.v ≤ h.v) : canonS l.bits h.bits false false = some (l, h) := by
 refine canonS_some (by simp [Key.bits_nan]) ?_ ?_ hlh
 ·rw [Key.kof_bits]; simp
 ·rw [Key.kof_bits]; simp
theorem canonS_empty : canonS 0 0 true true = none := canonS_none (by rw [kof_zero]; simp)
def slo : Rg → Nat | none => 0 | some (l, _) => l.bits
def shi : Rg → Nat | none => 0 | some (_, h) => h.bits
def sop : Rg → Bool | none => true | some _ => false
def rlo : Rg → Int | none => 1 | some (l, _) => kcode l
def rhi : Rg → Int | none => 0 | some (_, h) => kcode h
def okR : Rg → Prop | none => True | some (l, h) => l.v ≤ h.v

theorem spv_gen (r : Rg) : spv r = .agg #[.float .f64 (slo r), .float .f64 (shi r), .bool (sop r), .bool (sop r)] := by rcases r with _ | ⟨l, h⟩ <;> rfl
theorem slo_lt (r : Rg) : slo r < 2 ^ 64 := by
 rcases r with _ | ⟨l, h⟩
 ·exact Nat.two_pow_pos 64
 ·exact Key.bits_lt l
theorem shi_lt (r : Rg) : shi r < 2 ^ 64 := by
 rcases r with _ | ⟨l, h⟩
 ·exact Nat.two_pow_pos 64
 ·exact Key.bits_lt h
theorem feq_slo (r : Rg) : feq (slo r) (slo r) = true := by
 rw [feq_self]; rcases r with _ | ⟨l, h⟩
 ·exact feq_self 0 ▸ feq_lit 0 (by unfold inf; omega)
 ·simp [slo, Key.bits_nan]
theorem feq_shi (r : Rg) : feq (shi r) (shi r) = true := by
 rw [feq_self]; rcases r with _ | ⟨l, h⟩
 ·exact feq_self 0 ▸ feq_lit 0 (by unfold inf; omega)
 ·simp [shi, Key.bits_nan]
theorem isNaN_slo (r : Rg) : isNaN (slo r) = false := by have := feq_slo r; rw [feq_self] at this; simpa using this
theorem isNaN_shi (r : Rg) : isNaN (shi r) = false := by have := feq_shi r; rw [feq_self] at this; simpa using this
theorem okR_canon (lo hi : Nat) (a b : Bool) : okR (canonS lo hi a b) := by
 rcases e : canonS lo hi a b with _ | ⟨l, h⟩
 ·trivial
 ·exact canonS_le e
theorem canonS_gen {r : Rg} (ok : okR r) : canonS (slo r) (shi r) (sop r) (sop r) = r := by
 rcases r with _ | ⟨l, h⟩
 ·exact canonS_empty
 ·exact canonS_canon l h ok
theorem canonG (lo hi : Nat) (a b : Bool) (r : Rg) (w : World) (hl : lo < 2 ^ 64) (hh : hi < 2 ^ 64) (hr : Hid (canonS lo hi a b = r)) :
  Calls Tryz.prog 144 #[.agg #[.float .f64 lo, .float .f64 hi, .bool a, .bool b]] w (Ret (.agg #[.float .f64 (slo r), .float .f64 (shi r), .bool (sop r), .bool (sop r)]) w) := by
 have h := canon_any lo hi a b w hl hh
 rw [hr.out, spv_gen] at h
 exact h
theorem refOfG (lo hi : Nat) (a b : Bool) (r : Rg) (w : World) (hl : lo < 2 ^ 64) (hh : hi < 2 ^ 64) (hr : Hid (canonS lo hi a b = r)) :
  Calls Tryz.prog 36 #[.agg #[.float .f64 lo, .float .f64 hi, .bool a, .bool b]] w (Ret (.agg #[.int .u64 (rlo r), .int .u64 (rhi r)]) w) := by
 have h := refOf_is lo hi a b r w hl hh hr
 rcases r with _ | ⟨l, h'⟩ <;> exact h
theorem sameSpan_refl (a0 a1 : Nat) (a2 a3 : Bool) (w : World) :
  Calls Tryz.prog 91 #[.agg #[.float .f64 a0, .float .f64 a1, .bool a2, .bool a3], .agg #[.float .f64 a0, .float .f64 a1, .bool a2, .bool a3]] w (Ret (.bool true) w) := by
 have h := sameSpan_any a0 a1 a0 a1 a2 a3 a2 a3 w
 rw [show sameSp a0 a1 a2 a3 a0 a1 a2 a3 = true by simp [sameSp]] at h
 exact h
theorem refEmpty_some (l h : Key) (hlh : Hid (l.v ≤ h.v)) (w : World) : Calls Tryz.prog 35 #[.agg #[.int .u64 (kcode l), .int .u64 (kcode h)]] w (Ret (.bool false) w) := by
 have h1 := refEmpty_any (kcode l) (kcode h) w
 rw [show decide (kcode h < kcode l) = false by rw [decide_eq_false_iff_not, kcode_lt]; have := hlh.out; omega] at h1
 exact h1
theorem refEmpty_none (w : World) : Calls Tryz.prog 35 #[.agg #[.int .u64 1, .int .u64 0]] w (Ret (.bool true) w) := refEmpty_any 1 0 w

theorem refEmptyG (r : Rg) (v : Bool) (w : World) (ok : Hid (okR r)) (hv : Hid (r.isNone = v)) :
  Calls Tryz.prog 35 #[.agg #[.int .u64 (rlo r), .int .u64 (rhi r)]] w (Ret (.bool v) w) := by
 have hv' := hv.out
 subst hv'
 rcases r with _ | ⟨l, h⟩
 ·exact refEmpty_none w
 ·exact refEmpty_some l h ok w
theorem refSpanG (r : Rg) (w : World) (ok : Hid (okR r)) :
  Calls Tryz.prog 68 #[.agg #[.int .u64 (rlo r), .int .u64 (rhi r)]] w (Ret (.agg #[.float .f64 (slo r), .float .f64 (shi r), .bool (sop r), .bool (sop r)]) w) := by
 rw [← spv_gen]
 rcases r with _ | ⟨l, h⟩
 ·exact refSpan_none w
 ·exact refSpan_some l h ok.out w
theorem sameSpanG (r : Rg) (w : World) :
  Calls Tryz.prog 91 #[.agg #[.float .f64 (slo r), .float .f64 (shi r), .bool (sop r), .bool (sop r)], .agg #[.float .f64 (slo r), .float .f64 (shi r), .bool (sop r), .bool (sop r)]] w (Ret (.bool true) w) :=
 sameSpan_refl _ _ _ _ w
theorem has_is (lo hi : Nat) (a b : Bool) (key : Nat) (v : Bool) (w : World) (hl : lo < 2 ^ 64) (hh : hi < 2 ^ 64) (hv : Hid (hasB (canonS lo hi a b) key = v)) :
  Calls Tryz.prog 181 #[.agg #[.float .f64 lo, .float .f64 hi, .bool a, .bool b], .float .f64 key] w (Ret (.bool v) w) := by
 have h := has_any lo hi a b key w hl hh
 rw [hv.out] at h
 exact h

theorem canonS_one {a : Nat} (h : isNaN a = false) : canonS a a false false = some (kof a, kof a) := canonS_some (by simp [h]) (by simp) (by simp) (by omega)

end Go.Proofs.YtfbachckdadhoaaGreat
namespace Go.Proofs.YtfbachckdadhoaaGreat
set_option linter.unusedVariables false
open Go.RowKit Fl

end Go.Proofs.YtfbachckdadhoaaGreat
namespace Go.Proofs.YtfbachckdadhoaaGreat
set_option linter.unusedVariables false

def idxB {α : Type} (p : α → Bool) (xs : List α) : Int := match xs.findIdx? p with | some i => i | none => -1
theorem idxB_none {α : Type} {p : α → Bool} {xs : List α} (h : ∀ (i : Nat) x, xs[i]? = some x → p x = false) : idxB p xs = -1 := by
 unfold idxB
 rw [List.findIdx?_eq_none_iff.2 (fun x hx => ?_)]
 obtain ⟨i, hi⟩ := List.mem_iff_getElem?.1 hx
 exact h i x hi
theorem idxB_some {α : Type} {p : α → Bool} {xs : List α} {k : Nat} {x : α} (hk : xs[k]? = some x) (hp : p x = true) (h : ∀ j : Nat, j < k → ∀ y, xs[j]? = some y → p y = false) : idxB p xs = k := by
 unfold idxB
 have hlt : k < xs.length := (List.getElem?_eq_some_iff.1 hk).1
 have hx : xs[k] = x := (List.getElem?_eq_some_iff.1 hk).2
 have : xs.findIdx? p = some k := by
  rw [List.findIdx?_eq_some_iff_getElem]
  refine ⟨hlt, by rw [hx]; exact hp, fun j hj => ?_⟩
  have := h j hj xs[j] (List.getElem?_eq_getElem (by omega))
  simp [this]
 rw [this]
theorem idxB_any {α : Type} (p : α → Bool) (xs : List α) : decide (0 ≤ idxB p xs) = xs.any p := by
 rw [Bool.eq_iff_iff, decide_eq_true_eq, List.any_eq_true]
 unfold idxB
 constructor
 ·intro h
  cases e : xs.findIdx? p with
  | none => rw [e] at h; simp at h
  | some i =>
   obtain ⟨hi, hp, _⟩ := List.findIdx?_eq_some_iff_getElem.1 e
   exact ⟨_, List.getElem_mem hi, hp⟩
 ·rintro ⟨x, hx, hp⟩
  cases e : xs.findIdx? p with
  | none => rw [List.findIdx?_eq_none_iff] at e; have := e x hx; rw [hp] at this; cases this
  | some i => simp
end Go.Proofs.YtfbachckdadhoaaGreat
namespace Go.Proofs.YtfbachckdadhoaaGreat
set_option linter.unusedVariables false
open Go.RowKit Fl

structure FAt (w : World) (a : Option Addr) (xs : List Nat) : Prop where
 row : xs = [] ∨ ∃ b o, a = some ⟨b, o, none⟩ ∧ b < w.heap.size ∧ ∀ i, i < xs.length → w.cell? ⟨b, o + i, none⟩ = some (.float .f64 (xs[i]?.getD 0))
 lt : ∀ i, i < xs.length → xs[i]?.getD 0 < 2 ^ 64
 len : xs.length ≤ maxLen

theorem FAt.below {w w' : World} {a : Option Addr} {xs : List Nat} (h : FAt w a xs) (hb : Below w.heap.size w w') : FAt w' a xs := by
 refine ⟨?_, h.lt, h.len⟩
 rcases h.row with h0 | ⟨b, o, h1, h2, h3⟩
 ·exact .inl h0
 ·exact .inr ⟨b, o, h1, Nat.lt_of_lt_of_le h2 hb.size, fun i hi => (hb.cell (p := ⟨b, o + i, none⟩) h2).trans (h3 i hi)⟩

theorem fl_some {xs : List Nat} {k : Nat} (h : k < xs.length) : xs[k]? = some (xs[k]?.getD 0) := by rw [List.getElem?_eq_getElem h]; rfl

theorem feq_comm' (a b : Nat) : feq a b = feq b a := by
 unfold feq; rw [Bool.and_comm (!isNaN a), show decide ((kof a).v = (kof b).v) = decide ((kof b).v = (kof a).v) from decide_eq_decide.2 ⟨Eq.symm, Eq.symm⟩]

theorem slIndex_any (a : Option Addr) (c key : Nat) (xs : List Nat) (n : Nat) (w : World) (hn : xs.length = n) (h : FAt w a xs) :
  Calls Tryz.prog 182 #[.slice a n c, .float .f64 key] w fun e w' => e = .returned (.int .i64 (idxB (fun x => feq key x) xs)) ∧ w = w' := by
 obtain ⟨hr, hl, hm⟩ := h
 unfold maxLen at hm
 rcases hr with rfl | ⟨b, o, rfl, hb, hc⟩
 ·simp only [List.length_nil] at hn
  subst hn
  have e : idxB (fun x => feq key x) [] = -1 := rfl
  rw [e]
  clear hl e
  go_enter Tryz.func182, Tryz.ntmps182
  go_wp2
  go_loop [8] (fun i => i = .int .i64 0) (fun _ => 0)
  case atStart => rfl
  case round =>
   subst hrel
   go_wp2
   go_ret
   exact ⟨rfl, rfl⟩
 ·have HC := hid hc; have HN := hid hn
  rw [hn] at hm
  clear hc hn hl
  go_enter Tryz.func182, Tryz.ntmps182
  go_wp2
  go_loop [8] (fun i => ∃ k : Nat, k ≤ n ∧ i = .int .i64 k ∧ Hid (∀ j, j < k → ∀ y, xs[j]? = some y → feq key y = false)) (fun i => n - (intOf i).toNat)
  case atStart => exact ⟨0, Nat.zero_le _, rfl, hid fun j hj => absurd hj (Nat.not_lt_zero _)⟩
  case round =>
   obtain ⟨k, hk, rfl, HR⟩ := hrel
   by_cases hlt : k < n
   ·have hcell := HC.out k (by rw [HN.out]; exact hlt)
    have hlt' : (k : Int) < (n : Int) := by omega
    have hkx := hid (fl_some (xs := xs) (k := k) (by rw [HN.out]; exact hlt))
    cases hp : feq key (xs[k]?.getD 0)
    ·go_wp2
     go_round
     case rel => exact ⟨k + 1, by omega, by go_num, hid fun j hj y hy => by
       by_cases h : j < k
       ·exact HR.out j h y hy
       ·obtain rfl : j = k := by omega
        rw [hkx.out] at hy; cases hy; exact hp⟩
     case measure => simp [intOf]; omega
    ·go_wp2
     go_ret
     exact ⟨ret_int (by rw [idxB_some hkx.out hp HR.out]), rfl⟩
   ·obtain rfl : k = n := by omega
    go_wp2
    go_ret
    refine ⟨ret_int ?_, rfl⟩
    rw [idxB_none]
    intro i x hx
    refine HR.out i ?_ x hx
    have := (List.getElem?_eq_some_iff.1 hx).1
    have := HN.out
    omega

theorem slContains_any (a : Option Addr) (c key : Nat) (xs : List Nat) (n : Nat) (w : World) (hn : xs.length = n) (h : FAt w a xs) :
  Calls Tryz.prog 153 #[.slice a n c, .float .f64 key] w fun e w' => e = .returned (.bool (xs.any fun x => feq key x)) ∧ w = w' := by
 have H := fun W hW => slIndex_any a c key xs n W hn hW
 rw [← idxB_any]
 generalize idxB (fun x => feq key x) xs = r at *
 have hn' := hid hn
 clear hn
 go_enter Tryz.func153, Tryz.ntmps153
 go_wp2_with (go_at_call 182; (with_reducible refine (H _ h).mono ?_); rintro e w' ⟨rfl, rfl⟩)
 go_ret
 exact ⟨rfl, rfl⟩

theorem refHasF_any (a : Option Addr) (c key : Nat) (xs : List Nat) (n : Nat) (w : World) (hn : xs.length = n) (h : FAt w a xs) :
  Calls Tryz.prog 48 #[.slice a n c, .float .f64 key] w fun e w' => e = .returned (.bool (xs.any fun x => feq key x)) ∧ w = w' := by
 obtain ⟨hr, hl, hm⟩ := h
 unfold maxLen at hm
 rcases hr with rfl | ⟨b, o, rfl, hb, hc⟩
 ·simp only [List.length_nil] at hn
  subst hn
  have e : ([] : List Nat).any (fun x => feq key x) = false := rfl
  rw [e]
  clear hl e
  go_enter Tryz.func48, Tryz.ntmps48
  go_wp2
  go_loop [5] (fun i => i = .int .i64 0) (fun _ => 0)
  case atStart => rfl
  case round =>
   subst hrel
   go_wp2
   go_ret
   exact ⟨rfl, rfl⟩
 ·have HC := hid hc; have HN := hid hn
  rw [hn] at hm
  clear hc hn hl
  go_enter Tryz.func48, Tryz.ntmps48
  go_wp2
  go_loop [5] (fun i => ∃ k : Nat, k ≤ n ∧ i = .int .i64 k ∧ Hid (∀ j, j < k → ∀ y, xs[j]? = some y → feq key y = false)) (fun i => n - (intOf i).toNat)
  case atStart => exact ⟨0, Nat.zero_le _, rfl, hid fun j hj => absurd hj (Nat.not_lt_zero _)⟩
  case round =>
   obtain ⟨k, hk, rfl, HR⟩ := hrel
   by_cases hlt : k < n
   ·have hcell := HC.out k (by rw [HN.out]; exact hlt)
    have hlt' : (k : Int) < (n : Int) := by omega
    have hkx := hid (fl_some (xs := xs) (k := k) (by rw [HN.out]; exact hlt))
    cases hp : feq (xs[k]?.getD 0) key
    ·go_wp2
     go_round
     case rel => exact ⟨k + 1, by omega, by go_num, hid fun j hj y hy => by
       by_cases h : j < k
       ·exact HR.out j h y hy
       ·obtain rfl : j = k := by omega
        rw [hkx.out] at hy; cases hy; rw [feq_comm']; exact hp⟩
     case measure => simp [intOf]; omega
    ·go_wp2
     go_ret
     refine ⟨ret_bool ?_, rfl⟩
     symm
     rw [List.any_eq_true]
     exact ⟨_, List.mem_iff_getElem?.2 ⟨k, hkx.out⟩, by rw [feq_comm']; exact hp⟩
   ·obtain rfl : k = n := by omega
    go_wp2
    go_ret
    refine ⟨ret_bool ?_, rfl⟩
    symm
    rw [← idxB_any, idxB_none]
    ·rfl
    intro i x hx
    refine HR.out i ?_ x hx
    have := (List.getElem?_eq_some_iff.1 hx).1
    have := HN.out
    omega
end Go.Proofs.YtfbachckdadhoaaGreat
namespace Go.Proofs.YtfbachckdadhoaaGreat
set_option linter.unusedVariables false
open Go.RowKit Fl

structure SpanV where
 lo : Nat
 hi : Nat
 a : Bool
 b : Bool
instance : Inhabited SpanV := ⟨⟨0, 0, false, false⟩⟩
def SpanV.rg (s : SpanV) : Rg := canonS s.lo s.hi s.a s.b

structure SAt (w : World) (a : Option Addr) (ss : List SpanV) : Prop where
 row : ss = [] ∨ ∃ b o, a = some ⟨b, o, none⟩ ∧ b < w.heap.size ∧ ∀ i, i < ss.length → w.cell? ⟨b, o + i * 4, none⟩ = some (.float .f64 (ss[i]?.getD default).lo) ∧ w.cell? ⟨b, o + i * 4 + 1, none⟩ = some (.float .f64 (ss[i]?.getD default).hi) ∧
  w.cell? ⟨b, o + i * 4 + 2, none⟩ = some (.bool (ss[i]?.getD default).a) ∧ w.cell? ⟨b, o + i * 4 + 3, none⟩ = some (.bool (ss[i]?.getD default).b)
 lt : ∀ i, i < ss.length → (ss[i]?.getD default).lo < 2 ^ 64 ∧ (ss[i]?.getD default).hi < 2 ^ 64
 len : ss.length ≤ maxLen

theorem SAt.below {w w' : World} {a : Option Addr} {ss : List SpanV} (h : SAt w a ss) (hb : Below w.heap.size w w') : SAt w' a ss := by
 refine ⟨?_, h.lt, h.len⟩
 rcases h.row with h0 | ⟨b, o, h1, h2, h3⟩
 ·exact .inl h0
 ·have k := fun j => hb.cell (p := ⟨b, j, none⟩) h2
  exact .inr ⟨b, o, h1, Nat.lt_of_lt_of_le h2 hb.size, fun i hi => ⟨(k _).trans (h3 i hi).1, (k _).trans (h3 i hi).2.1, (k _).trans (h3 i hi).2.2.1, (k _).trans (h3 i hi).2.2.2⟩⟩
theorem sp_some {ss : List SpanV} {k : Nat} (h : k < ss.length) : ss[k]? = some (ss[k]?.getD default) := by rw [List.getElem?_eq_getElem h]; rfl
end Go.Proofs.YtfbachckdadhoaaGreat
namespace Go.Proofs.YtfbachckdadhoaaGreat
set_option linter.unusedVariables false
open Go.RowKit Fl

structure SubV where
 s0 : Int
 s1 : Int
 s2 : Int
 ra : Option Addr
 rc : Nat
 rs : List Nat
 sa : Option Addr
 sc : Nat
 ss : List SpanV
 wa : Option Addr
 wc : Nat
 ws : List Nat
structure SubV.At (x : SubV) (w : World) : Prop where
 r : FAt w x.ra x.rs
 s : SAt w x.sa x.ss
 w : FAt w x.wa x.ws
theorem SubV.At.below {x : SubV} {w w' : World} (h : x.At w) (hb : Below w.heap.size w w') : x.At w' := ⟨h.r.below hb, h.s.below hb, h.w.below hb⟩
def SubV.reads (x : SubV) (key : Nat) : Bool := (x.rs.any fun k => feq key k) || (x.ss.any fun s => hasB s.rg key)
def SubV.writes (x : SubV) (key : Nat) : Bool := x.ws.any fun k => feq key k
def SubV.meets (a b : SubV) : Bool := b.ws.any fun k => a.reads k
end Go.Proofs.YtfbachckdadhoaaGreat
