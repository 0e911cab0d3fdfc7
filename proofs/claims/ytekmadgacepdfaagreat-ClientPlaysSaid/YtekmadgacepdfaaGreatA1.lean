/- Walks of the leaves. -/
import Derived.Test.YtekmadgacepdfaaGreatChecked
import Derived.Test.YtekmadgacepdfaaGreatFlt
import Derived.WalkKit
import Derived.WalkLawsBesides
import Derived.WalkSpells
import Derived.Deep.QuietTactic
import Derived.BigQuiet
namespace Go.Proofs.YtekmadgacepdfaaGreat
set_option linter.unusedVariables false
open Go.RowKit Fl

attribute [go_sem] Fl.ord_eq Fl.ord_lt Fl.ord_gt Fl.ord_ne Fl.lt_or_eq Fl.gt_or_eq Fl.feq_self Fl.feq_kk Fl.flt_kk Fl.fle_kk Fl.Key.bits_nan Fl.Key.kof_bits

theorem hid {p : Prop} (h : p) : Hid p := h
def Ret (v : Value) (w : World) (e : Ending) (w' : World) : Prop := e = .returned v ∧ Below w.heap.size w w'

theorem bcell {W w1 : World} (hb : Below W.heap.size W w1) : (∀ b o, b < W.heap.size → w1.cell? ⟨b, o, none⟩ = W.cell? ⟨b, o, none⟩) ∧ (∀ b o, b < W.heap.size → w1.frozen? ⟨b, o, none⟩ = W.frozen? ⟨b, o, none⟩) :=
 ⟨fun b o h => hb.cell (p := ⟨b, o, none⟩) h, fun b o h => hb.frozen (p := ⟨b, o, none⟩) h⟩

theorem Below.after {B C : Nat} {a b c : World} (h : Below C b c) (hc : B ≤ C) (k : Below B a b) : Below B a c := k.trans (h.mono hc)
theorem Below.alloc1 {B : Nat} {a w : World} (hB : B ≤ w.heap.size) (h : Below B a w) (o : Obj) : Below B a (w.alloc o) := h.alloc hB o
theorem Below.setCell1 {B : Nat} {a w : World} {p : Addr} (hp : B ≤ p.block) (h : Below B a w) (u : Value) : Below B a (w.setCell p u) := h.setCell hp u
theorem below_drewN' {B : Nat} {a w : World} (h : Below B a w) (n : Nat) : Below B a (w.drewN n) := ⟨h.os, h.tape, h.output, h.size, h.block⟩

@[simp, go_sem] theorem drewN_size' (w : World) (n : Nat) : (w.drewN n).heap.size = w.heap.size := rfl
@[go_sem] theorem drewN_cell' (w : World) (n : Nat) (a : Addr) : (w.drewN n).cell? a = w.cell? a := rfl
@[go_sem] theorem drewN_frozen' (w : World) (n : Nat) (a : Addr) : (w.drewN n).frozen? a = w.frozen? a := rfl

abbrev Rg := Option (Key × Key)

def canonS (lo hi : Nat) (a b : Bool) : Rg :=
 if isNaN lo || isNaN hi then none else
 if h : (kof lo).v + (if a then 1 else 0) ≤ (kof hi).v - (if b then 1 else 0) then
  some (⟨(kof lo).v + (if a then 1 else 0), by have := (kof lo).lo; split <;> omega, by have := (kof hi).hi; split at h <;> split at h <;> simp_all <;> omega⟩,
     ⟨(kof hi).v - (if b then 1 else 0), by have := (kof lo).lo; split at h <;> split at h <;> simp_all <;> omega, by have := (kof hi).hi; split <;> omega⟩)
 else none

def spv : Rg → Value
 | none => .agg #[.float .f64 0, .float .f64 0, .bool true, .bool true]
 | some (l, h) => .agg #[.float .f64 l.bits, .float .f64 h.bits, .bool false, .bool false]

@[go_sem] theorem spv_none : spv none = .agg #[.float .f64 0, .float .f64 0, .bool true, .bool true] := rfl
@[go_sem] theorem spv_some (l h : Key) : spv (some (l, h)) = .agg #[.float .f64 l.bits, .float .f64 h.bits, .bool false, .bool false] := rfl

def hasB : Rg → Nat → Bool
 | none, _ => false
 | some (l, h), key => fle l.bits key && fle key h.bits

theorem canonS_some {lo hi : Nat} {a b : Bool} {l h : Key} (hn : (isNaN lo || isNaN hi) = false) (hl : l.v = (kof lo).v + (if a then 1 else 0)) (hh : h.v = (kof hi).v - (if b then 1 else 0)) (hlh : l.v ≤ h.v) :
  canonS lo hi a b = some (l, h) := by
 unfold canonS
 rw [if_neg (by simp [hn]), dif_pos (by omega)]
 congr 2
 ·apply Key.ext'; exact hl.symm
 ·apply Key.ext'; exact hh.symm
theorem canonS_none {lo hi : Nat} {a b : Bool} (h : ¬ (kof lo).v + (if a then 1 else 0) ≤ (kof hi).v - (if b then 1 else 0)) : canonS lo hi a b = none := by
 unfold canonS
 by_cases hn : (isNaN lo || isNaN hi) = true
 ·rw [if_pos hn]
 ·rw [if_neg hn, dif_neg h]

structure Ext (w0 : World) where
 w : World
 b : Below w0.heap.size w0 w
@[go_sem] theorem Ext.cell {w0 : World} (x : Ext w0) {b o : Nat} (h : b < w0.heap.size) : x.w.cell? ⟨b, o, none⟩ = w0.cell? ⟨b, o, none⟩ := x.b.cell (p := ⟨b, o, none⟩) h
@[go_sem] theorem Ext.frozen {w0 : World} (x : Ext w0) {b o : Nat} (h : b < w0.heap.size) : x.w.frozen? ⟨b, o, none⟩ = w0.frozen? ⟨b, o, none⟩ := x.b.frozen (p := ⟨b, o, none⟩) h
instance {w0 : World} : Nonempty (Ext w0) := ⟨⟨w0, Below.refl _ _⟩⟩

theorem wp_region_ext {P : Program} {id : Nat} {Q : Exit → Act → World → Prop} {a : Act} {w : World} {l : List Oper} (hm : P.follows .mixedOrders = true) (hB : Region.lexB .any l.toArray = true)
  (h : wpQuiet P l.toArray (fun w' => ∃ x : Ext w, w' = x.w) (fun a' => ∀ w', (∃ x : Ext w, w' = x.w) → Q .normal a' w') l a) : (Code.region id l.toArray true).wp P Q a w :=
 wp_region_quiet (C := fun w' => ∃ x : Ext w, w' = x.w) hm hB ⟨⟨_, (Below.refl _ _).drew⟩, rfl⟩ (by simpa using h)

theorem Calls.ext_of {P : Program} {f : FuncId} {args : Array Value} {w0 : World} {x : Ext w0} {v : Value} (h : Calls P f args x.w (Ret v x.w)) :
  Calls P f args x.w fun e w'' => e = .returned v ∧ ∃ y : Ext w0, w'' = y.w :=
 h.mono fun _ w'' ⟨he, hb⟩ => ⟨he, ⟨w'', x.b.trans (hb.mono x.b.size)⟩, rfl⟩
theorem Calls.ext_same {P : Program} {f : FuncId} {args : Array Value} {w0 : World} {x : Ext w0} {v : Value} (h : Calls P f args x.w fun e w' => e = .returned v ∧ x.w = w') :
  Calls P f args x.w fun e w'' => e = .returned v ∧ ∃ y : Ext w0, w'' = y.w :=
 h.mono fun _ _ ⟨he, hb⟩ => ⟨he, x, hb.symm⟩

theorem isNaN_any (b : Nat) (w : World) :
  Calls Tryz.prog 96 #[.float .f64 b] w fun e w' => e = .returned (.bool (isNaN b)) ∧ w = w' := by
 go_enter Tryz.func96, Tryz.ntmps96
 go_wp2
 go_ret
 exact ⟨by simp, rfl⟩

theorem right_any (lo hi : Nat) (a b : Bool) (w : World) :
  Calls Tryz.prog 72 #[.agg #[.float .f64 lo, .float .f64 hi, .bool a, .bool b]] w (Ret (.bool (!isNaN lo && !isNaN hi)) w) := by
 go_enter Tryz.func72, Tryz.ntmps72
 go_wp2_with (go_at_call 96; (with_reducible refine (isNaN_any _ _).mono ?_); rintro e w' ⟨rfl, rfl⟩)
 all_goals (go_ret; exact ⟨by simp [*], by (repeat (first | with_reducible exact Below.refl _ _ | ((with_reducible refine Below.alloc1 ?_ ?_ _); (· first | omega | (simp; done) | (simp; omega))) | (with_reducible refine Below.drew ?_) | (with_reducible refine below_drewN' ?_ _) | ((with_reducible refine Below.setCell1 ?_ ?_ _); (· first | omega | (simp; done) | (simp; omega))) | ((with_reducible refine Below.after (by assumption) ?_ ?_); (· first | omega | (simp; done) | (simp; omega)))))⟩)

@[go_sem] theorem run_bits (b : Nat) (w : World) : (callFunc 128 #[.float .f64 b]).run Tryz.prog w = .ok (.value (.int .u64 (b : Int))) w := by
 rw [run_callFunc_extern Tryz.func128 (by kernel_rfl) (by kernel_rfl) (by kernel_rfl) (e := Extern.MathFloatBits.float64bits) (by kernel_rfl)]
 rfl
@[go_sem] theorem run_frombits (n : Int) (w : World) : (callFunc 153 #[.int .u64 n]).run Tryz.prog w = .ok (.value (.float .f64 n.toNat)) w := by
 rw [run_callFunc_extern Tryz.func153 (by kernel_rfl) (by kernel_rfl) (by kernel_rfl) (e := Extern.MathFloatBits.float64frombits) (by kernel_rfl)]
 rfl

theorem nan_any (w : World) :
  Calls Tryz.prog 143 #[] w fun e w' => e = .returned (.float .f64 nanBits) ∧ w = w' := by
 go_enter Tryz.func143, Tryz.ntmps143
 go_wp2
 go_ret
 exact ⟨by simp [nanBits], rfl⟩

theorem infUp_any (w : World) :
  Calls Tryz.prog 176 #[.int .i64 1] w fun e w' => e = .returned (.float .f64 inf) ∧ w = w' := by
 go_enter Tryz.func176, Tryz.ntmps176
 go_wp2
 go_ret
 exact ⟨by simp [inf], rfl⟩

theorem infDown_any (w : World) :
  Calls Tryz.prog 176 #[.int .i64 (-1)] w fun e w' => e = .returned (.float .f64 (top + inf)) ∧ w = w' := by
 go_enter Tryz.func176, Tryz.ntmps176
 go_wp2
 go_ret
 exact ⟨by simp [inf, top], rfl⟩

@[go_sem] theorem run_store_float (w : World) (a : Addr) (m : Mode) (k : FloatKind) (b : Nat) : (store a (.float k b) m).run Tryz.prog w = stored Tryz.prog w a (.float k b) m := run_store Tryz.prog w a _ m rfl

@[go_sem] theorem fieldSp0 (x0 x1 x2 x3 : Value) (w : World) : (Instr.field 121 (.agg #[x0, x1, x2, x3]) 0).run Tryz.prog w = .ok x0 w := by kernel_rfl
@[go_sem] theorem fieldSp1 (x0 x1 x2 x3 : Value) (w : World) : (Instr.field 121 (.agg #[x0, x1, x2, x3]) 1).run Tryz.prog w = .ok x1 w := by kernel_rfl
@[go_sem] theorem fieldSp2 (x0 x1 x2 x3 : Value) (w : World) : (Instr.field 121 (.agg #[x0, x1, x2, x3]) 2).run Tryz.prog w = .ok x2 w := by kernel_rfl
@[go_sem] theorem fieldSp3 (x0 x1 x2 x3 : Value) (w : World) : (Instr.field 121 (.agg #[x0, x1, x2, x3]) 3).run Tryz.prog w = .ok x3 w := by kernel_rfl

theorem ret_float {a b : Nat} (h : a = b) : Ending.returned (.float .f64 a) = .returned (.float .f64 b) := by rw [h]
theorem ret_bool {a b : Bool} (h : a = b) : Ending.returned (.bool a) = .returned (.bool b) := by rw [h]
theorem ret_int {k : IntKind} {a b : Int} (h : a = b) : Ending.returned (.int k a) = .returned (.int k b) := by rw [h]

theorem floCanon_any (b : Nat) (hb : b < 2 ^ 64) (w : World) :
  Calls Tryz.prog 111 #[.float .f64 b] w fun e w' => e = .returned (.float .f64 (cbits b)) ∧ w = w' := by
 go_enter Tryz.func111, Tryz.ntmps111
 go_wp2_with (first | (go_at_call 96; (with_reducible refine (isNaN_any _ _).mono ?_); rintro e w' ⟨rfl, rfl⟩) | (go_at_call 143; (with_reducible refine (nan_any _).mono ?_); rintro e w' ⟨rfl, rfl⟩))
 ·go_ret
  exact ⟨ret_float (cbits_nan (by assumption)).symm, rfl⟩
 ·go_ret
  exact ⟨ret_float (cbits_zero (by assumption)).symm, rfl⟩
 ·go_ret
  exact ⟨ret_float (cbits_other hb (by assumption) (by assumption)).symm, rfl⟩

theorem bits_andNot_top {b : Nat} (hb : b < 2 ^ 64) : bits BinOp.andNot IntKind.u64 (b : Int) 9223372036854775808 = ((b % top : Nat) : Int) := by
 have h := u64_andNot_nat b 9223372036854775808 (by omega) (by omega)
 rw [show ((9223372036854775808 : Nat) : Int) = 9223372036854775808 from rfl] at h
 rw [h]
 have := Nat.and_two_pow_sub_one_eq_mod b 63
 unfold top
 rw [show (18446744073709551615 - 9223372036854775808 : Nat) = 2 ^ 63 - 1 from rfl, this]
theorem bits_and_top {b : Nat} (hb : b < 2 ^ 64) : bits BinOp.and IntKind.u64 (b : Int) 9223372036854775808 = (if b < top then 0 else 9223372036854775808) := by
 have h := u64_and_nat b 9223372036854775808 (by omega) (by omega)
 rw [show ((9223372036854775808 : Nat) : Int) = 9223372036854775808 from rfl] at h
 rw [h]
 have := nat_bit 63 b
 rw [show (2 ^ 63 : Nat) = 9223372036854775808 from rfl] at this
 rw [this]
 unfold top
 split <;> omega
theorem bits_or_top {b : Nat} (hb : b < top) : bits BinOp.or IntKind.u64 (b : Int) 9223372036854775808 = ((b + top : Nat) : Int) := by
 unfold top at *
 have h := u64_or_nat b 9223372036854775808 (by omega) (by omega)
 rw [show ((9223372036854775808 : Nat) : Int) = 9223372036854775808 from rfl] at h
 rw [h, Nat.or_comm, nat_join 63 9223372036854775808 b (by decide) (by omega), Nat.add_comm]

@[go_sem] theorem run_neg_float (k : FloatKind) (b : Nat) (w : World) : (Op.unary .neg (.float k b)).run Tryz.prog w = .ok (.float k (Op.negFloat k b)) w := rfl

theorem isInfUp_any (k : Key) (w : World) :
  Calls Tryz.prog 177 #[.float .f64 k.bits, .int .i64 1] w fun e w' => e = .returned (.bool (decide ((inf : Int) ≤ k.v))) ∧ w = w' := by
 have h1 := flt_max k
 go_enter Tryz.func177, Tryz.ntmps177
 go_wp2
 go_ret
 exact ⟨rfl, rfl⟩

theorem isInfDown_any (k : Key) (w : World) :
  Calls Tryz.prog 177 #[.float .f64 k.bits, .int .i64 (-1)] w fun e w' => e = .returned (.bool (decide (k.v ≤ -(inf : Int)))) ∧ w = w' := by
 have h1 := flt_max_neg k
 go_enter Tryz.func177, Tryz.ntmps177
 go_wp2
 go_ret
 exact ⟨rfl, rfl⟩

theorem copysign_up (w : World) :
  Calls Tryz.prog 199 #[.float .f64 1, .float .f64 inf] w fun e w' => e = .returned (.float .f64 1) ∧ w = w' := by
 have h1 : bits BinOp.andNot IntKind.u64 1 9223372036854775808 = 1 := bits_andNot_top (b := 1) (by omega)
 have h2 : bits BinOp.and IntKind.u64 (inf : Int) 9223372036854775808 = 0 := by rw [bits_and_top (b := inf) (by unfold inf; omega), if_pos (by unfold inf top; omega)]
 have h3 : bits BinOp.or IntKind.u64 1 0 = 1 := by kernel_rfl
 go_enter Tryz.func199, Tryz.ntmps199
 go_wp2
 go_ret
 exact ⟨rfl, rfl⟩

theorem copysign_down (w : World) :
  Calls Tryz.prog 199 #[.float .f64 1, .float .f64 (top + inf)] w fun e w' => e = .returned (.float .f64 (top + 1)) ∧ w = w' := by
 have h1 : bits BinOp.andNot IntKind.u64 1 9223372036854775808 = 1 := bits_andNot_top (b := 1) (by omega)
 have h2 : bits BinOp.and IntKind.u64 ((top : Int) + (inf : Int)) 9223372036854775808 = 9223372036854775808 := by
  rw [show (top : Int) + (inf : Int) = ((top + inf : Nat) : Int) by omega, bits_and_top (b := top + inf) (by unfold inf top; omega), if_neg (by unfold inf top; omega)]
 have h3 : bits BinOp.or IntKind.u64 1 9223372036854775808 = ((1 + top : Nat) : Int) := bits_or_top (b := 1) (by unfold top; omega)
 go_enter Tryz.func199, Tryz.ntmps199
 go_wp2
 go_ret
 exact ⟨ret_float (by unfold top; rfl), rfl⟩

theorem wrap_up (k : Key) : IntKind.u64.wrap ((k.bits : Int) + 1) = ((k.bits + 1 : Nat) : Int) := by
 rw [IntKind.wrap_u64]; have h1 := k.lo; have h2 := k.hi; unfold Key.bits inf top at *; split <;> omega
theorem wrap_down (k : Key) (h : k.v ≠ 0) : IntKind.u64.wrap ((k.bits : Int) - 1) = ((k.bits - 1 : Nat) : Int) := by
 rw [IntKind.wrap_u64]; have h1 := k.lo; have h2 := k.hi; unfold Key.bits inf top at *; split <;> omega

theorem nextafter_up (k : Key) (h : k.v ≠ (inf : Int)) (w : World) :
  Calls Tryz.prog 178 #[.float .f64 k.bits, .float .f64 inf] w fun e w' => e = .returned (.float .f64 (nup k)) ∧ w = w' := by
 have h1 : isNaN inf = false := by rw [← ktop_bits]; exact Key.bits_nan _
 have h2 : feq k.bits inf = false := by rw [feq_top]; simp [h]
 have h3 : flt k.bits inf = true := by rw [flt_top]; have := k.hi; simp only [decide_eq_true_eq]; omega
 have h4 := flt_zero k
 have h5 := feq_zero k
 have h6 := wrap_up k
 by_cases hz : k.v = 0
 ·have e : nup k = 1 := by simp [nup, Key.bits, hz]
  rw [e]
  go_enter Tryz.func178, Tryz.ntmps178
  go_wp2_with (first | (go_at_call 96; (with_reducible refine (isNaN_any _ _).mono ?_); rintro e w' ⟨rfl, rfl⟩) | (go_at_call 199; (with_reducible refine (copysign_up _).mono ?_); rintro e w' ⟨rfl, rfl⟩))
  go_ret
  exact ⟨rfl, rfl⟩
 ·by_cases hp : 0 < k.v
  ·have e : nup k = k.bits + 1 := by unfold nup; rw [if_pos (by omega)]
   rw [e]
   go_enter Tryz.func178, Tryz.ntmps178
   go_wp2_with (first | (go_at_call 96; (with_reducible refine (isNaN_any _ _).mono ?_); rintro e w' ⟨rfl, rfl⟩) | (go_at_call 199; (with_reducible refine (copysign_up _).mono ?_); rintro e w' ⟨rfl, rfl⟩))
   go_ret
   exact ⟨rfl, rfl⟩
  ·have e : nup k = k.bits - 1 := by unfold nup; rw [if_neg (by omega)]
   have h8 := wrap_down k (by omega)
   rw [e]
   go_enter Tryz.func178, Tryz.ntmps178
   go_wp2_with (first | (go_at_call 96; (with_reducible refine (isNaN_any _ _).mono ?_); rintro e w' ⟨rfl, rfl⟩) | (go_at_call 199; (with_reducible refine (copysign_up _).mono ?_); rintro e w' ⟨rfl, rfl⟩))
   go_ret
   exact ⟨ret_float (by omega), rfl⟩

theorem nextafter_down (k : Key) (h : k.v ≠ -(inf : Int)) (w : World) :
  Calls Tryz.prog 178 #[.float .f64 k.bits, .float .f64 (top + inf)] w fun e w' => e = .returned (.float .f64 (ndown k)) ∧ w = w' := by
 have h1 : isNaN (top + inf) = false := by rw [← kbot_bits]; exact Key.bits_nan _
 have h2 : feq k.bits (top + inf) = false := by rw [feq_bot]; simp [h]
 have h3 : flt (top + inf) k.bits = true := by rw [← kbot_bits, flt_kk]; have := k.lo; rw [decide_eq_true_eq]; show -(inf : Int) < k.v; omega
 have h3' : flt k.bits (top + inf) = false := by rw [flt_bot]; have := k.lo; simp; omega
 have h4 := flt_zero k
 have h5 := feq_zero k
 have h6 := wrap_up k
 by_cases hz : k.v = 0
 ·have e : ndown k = top + 1 := by simp [ndown, hz]
  rw [e]
  go_enter Tryz.func178, Tryz.ntmps178
  go_wp2_with (first | (go_at_call 96; (with_reducible refine (isNaN_any _ _).mono ?_); rintro e w' ⟨rfl, rfl⟩) | (go_at_call 199; (with_reducible refine (copysign_down _).mono ?_); rintro e w' ⟨rfl, rfl⟩))
  go_ret
  exact ⟨rfl, rfl⟩
 ·by_cases hp : 0 < k.v
  ·have e : ndown k = k.bits - 1 := by unfold ndown; rw [if_neg hz, if_pos (by omega)]
   have h8 := wrap_down k (by omega)
   rw [e]
   go_enter Tryz.func178, Tryz.ntmps178
   go_wp2_with (first | (go_at_call 96; (with_reducible refine (isNaN_any _ _).mono ?_); rintro e w' ⟨rfl, rfl⟩) | (go_at_call 199; (with_reducible refine (copysign_down _).mono ?_); rintro e w' ⟨rfl, rfl⟩))
   go_ret
   exact ⟨ret_float (by omega), rfl⟩
  ·have e : ndown k = k.bits + 1 := by unfold ndown; rw [if_neg hz, if_neg (by omega)]
   rw [e]
   have hp' : decide (0 < k.v) = false := by simpa using hp
   go_enter Tryz.func178, Tryz.ntmps178
   go_wp2_with (first | (go_at_call 96; (with_reducible refine (isNaN_any _ _).mono ?_); rintro e w' ⟨rfl, rfl⟩) | (go_at_call 199; (with_reducible refine (copysign_down _).mono ?_); rintro e w' ⟨rfl, rfl⟩))
   go_ret
   exact ⟨rfl, rfl⟩

theorem next_any (k : Key) (w : World) :
  Calls Tryz.prog 147 #[.float .f64 k.bits] w fun e w' => e = .returned (.float .f64 (knext k).bits) ∧ w = w' := by
 have hk := k.hi
 by_cases h : k.v = (inf : Int)
 ·have e : knext k = k := by simp [knext, h]
  have h1 : decide ((inf : Int) ≤ k.v) = true := by simp; omega
  rw [e]
  clear h e
  go_enter Tryz.func147, Tryz.ntmps147
  go_wp2_with (first | (go_at_call 96; (with_reducible refine (isNaN_any _ _).mono ?_); rintro e w' ⟨rfl, rfl⟩) | (go_at_call 177; (with_reducible refine (isInfUp_any _ _).mono ?_); rintro e w' ⟨rfl, rfl⟩))
  go_ret
  exact ⟨rfl, rfl⟩
 ·have h1 : decide ((inf : Int) ≤ k.v) = false := by simp; omega
  rw [← cbits_nup h]
  have h2 := nup_lt k
  go_enter Tryz.func147, Tryz.ntmps147
  go_wp2_with (first | (go_at_call 96; (with_reducible refine (isNaN_any _ _).mono ?_); rintro e w' ⟨rfl, rfl⟩) | (go_at_call 177; (with_reducible refine (isInfUp_any _ _).mono ?_); rintro e w' ⟨rfl, rfl⟩) | (go_at_call 176; (with_reducible refine (infUp_any _).mono ?_); rintro e w' ⟨rfl, rfl⟩) | (go_at_call 178; (with_reducible refine (nextafter_up k h _).mono ?_); rintro e w' ⟨rfl, rfl⟩) | (go_at_call 111; (with_reducible refine (floCanon_any _ h2 _).mono ?_); rintro e w' ⟨rfl, rfl⟩))
  go_ret
  exact ⟨rfl, rfl⟩

def pbits (k : Key) : Nat := if k.v = -(inf : Int) then nanBits else (kprev k).bits

theorem prev_any (k : Key) (w : World) :
  Calls Tryz.prog 148 #[.float .f64 k.bits] w fun e w' => e = .returned (.float .f64 (pbits k)) ∧ w = w' := by
 have hk := k.lo
 by_cases h : k.v = -(inf : Int)
 ·have e : pbits k = nanBits := by simp [pbits, h]
  have h1 : decide (k.v ≤ -(inf : Int)) = true := by simp; omega
  rw [e]
  clear h e
  go_enter Tryz.func148, Tryz.ntmps148
  go_wp2_with (first | (go_at_call 96; (with_reducible refine (isNaN_any _ _).mono ?_); rintro e w' ⟨rfl, rfl⟩) | (go_at_call 177; (with_reducible refine (isInfDown_any _ _).mono ?_); rintro e w' ⟨rfl, rfl⟩) | (go_at_call 143; (with_reducible refine (nan_any _).mono ?_); rintro e w' ⟨rfl, rfl⟩))
  go_ret
  exact ⟨rfl, rfl⟩
 ·have h1 : decide (k.v ≤ -(inf : Int)) = false := by simp; omega
  have e : pbits k = cbits (ndown k) := by rw [cbits_ndown h]; simp [pbits, h]
  rw [e]
  have h2 := ndown_lt k
  clear e
  go_enter Tryz.func148, Tryz.ntmps148
  go_wp2_with (first | (go_at_call 96; (with_reducible refine (isNaN_any _ _).mono ?_); rintro e w' ⟨rfl, rfl⟩) | (go_at_call 177; (with_reducible refine (isInfDown_any _ _).mono ?_); rintro e w' ⟨rfl, rfl⟩) | (go_at_call 176; (with_reducible refine (infDown_any _).mono ?_); rintro e w' ⟨rfl, rfl⟩) | (go_at_call 178; (with_reducible refine (nextafter_down k h _).mono ?_); rintro e w' ⟨rfl, rfl⟩) | (go_at_call 111; (with_reducible refine (floCanon_any _ h2 _).mono ?_); rintro e w' ⟨rfl, rfl⟩))
  go_ret
  exact ⟨rfl, rfl⟩
end Go.Proofs.YtekmadgacepdfaaGreat
