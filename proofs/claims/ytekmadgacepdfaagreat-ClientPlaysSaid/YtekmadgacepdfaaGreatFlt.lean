/- Plain float theory, no program in sight: a double as an integer key; how == and < compare. -/
import GoSem.Core.Float
import GoSem.Core.Value
import GoSem.Op.Unary
namespace Go.Proofs.YtekmadgacepdfaaGreat
set_option linter.unusedVariables false

namespace Fl

def inf : Nat := 0x7ff0000000000000
def top : Nat := 0x8000000000000000
def nanBits : Nat := 0x7ff8000000000001

def fkey (b : Nat) : Int := if b / top % 2 == 1 then -((b % top : Nat) : Int) else ((b % top : Nat) : Int)

def isNaN (b : Nat) : Bool := decide (inf < b % top)

def mag (r : Nat) : Nat := if r < 2 ^ 52 then r else (2 ^ 52 + r % 2 ^ 52) * 2 ^ (r / 2 ^ 52 - 1)

theorem mag_succ (r : Nat) : mag r < mag (r + 1) := by
 unfold mag
 by_cases h : r + 1 < 2 ^ 52
 ·rw [if_pos (by omega), if_pos h]; omega
 ·by_cases h0 : r < 2 ^ 52
  ·have : r = 2 ^ 52 - 1 := by omega
   subst this
   simp
  ·rw [if_neg h0, if_neg (by omega)]
   by_cases hf : r % 2 ^ 52 + 1 < 2 ^ 52
   ·have e1 : (r + 1) % 2 ^ 52 = r % 2 ^ 52 + 1 := by omega
    have e2 : (r + 1) / 2 ^ 52 = r / 2 ^ 52 := by omega
    rw [e1, e2]
    exact Nat.mul_lt_mul_of_pos_right (by omega) (Nat.two_pow_pos _)
   ·have e1 : (r + 1) % 2 ^ 52 = 0 := by omega
    have e2 : (r + 1) / 2 ^ 52 - 1 = (r / 2 ^ 52 - 1) + 1 := by omega
    have e3 : r % 2 ^ 52 = 2 ^ 52 - 1 := by omega
    rw [e1, e2, e3]
    have p1 : 0 < 2 ^ (r / 2 ^ 52 - 1) := Nat.two_pow_pos _
    have p2 : 2 ^ (r / 2 ^ 52 - 1 + 1) = 2 ^ (r / 2 ^ 52 - 1) * 2 := Nat.pow_succ ..
    rw [p2]
    generalize 2 ^ (r / 2 ^ 52 - 1) = q at *
    omega

theorem mag_lt {a b : Nat} (h : a < b) : mag a < mag b := by
 induction b with
 | zero => omega
 | succ b ih =>
  by_cases hb : a = b
  ·subst hb; exact mag_succ _
  ·exact Nat.lt_trans (ih (by omega)) (mag_succ _)

theorem mag_zero : mag 0 = 0 := by simp [mag]

theorem mag_inj {a b : Nat} (h : mag a = mag b) : a = b := by
 rcases Nat.lt_trichotomy a b with h1 | h1 | h1
 ·have := mag_lt h1; omega
 ·exact h1
 ·have := mag_lt h1; omega

def sg (s : Bool) (n : Nat) : Int := if s then -(n : Int) else (n : Int)

theorem cmp_sg_mag (s t : Bool) (a b : Nat) : compare (sg s (mag a)) (sg t (mag b)) = compare (sg s a) (sg t b) := by
 have key : ∀ x y : Int, ∀ u v : Int, ((x < y) ↔ (u < v)) → ((x = y) ↔ (u = v)) → compare x y = compare u v := by
  intro x y u v h1 h2
  simp only [compare, compareOfLessAndEq, h1, h2]
 have hz : ∀ n, mag n = 0 ↔ n = 0 := fun n => ⟨fun h => mag_inj (by rw [h, mag_zero]), fun h => by rw [h, mag_zero]⟩
 have hza := hz a; have hzb := hz b
 rcases Nat.lt_trichotomy a b with h | h | h
 ·have := mag_lt h
  apply key <;> cases s <;> cases t <;> simp only [sg, if_true, if_false, Bool.false_eq_true] <;> omega
 ·subst h
  apply key <;> cases s <;> cases t <;> simp only [sg, if_true, if_false, Bool.false_eq_true] <;> omega
 ·have := mag_lt h
  apply key <;> cases s <;> cases t <;> simp only [sg, if_true, if_false, Bool.false_eq_true] <;> omega

theorem cmp_scale (a b : Int) (c : Nat) (hc : 0 < c) : compare (a * c) (b * c) = compare a b := by
 have h1 : (a * c < b * c) ↔ a < b := Int.mul_lt_mul_right (by omega)
 have h2 : (a * c = b * c) ↔ a = b := ⟨fun h => Int.eq_of_mul_eq_mul_right (by omega) h, fun h => by rw [h]⟩
 simp only [compare, compareOfLessAndEq, h1, h2]

theorem signed_eq (s : Bool) (m u : Nat) : Ieee.signed s m u = sg s (m * 2 ^ u) := by
 simp [Ieee.signed, sg, Nat.shiftLeft_eq]

theorem sg_mul (s : Bool) (m c : Nat) : sg s m * c = sg s (m * c) := by
 cases s <;> simp [sg, Int.neg_mul]

theorem read_fin (b : Nat) (h : b % top < inf) : ∃ m e : Nat, (Ieee.double.read b) = .number (b / top % 2 == 1) m ((e : Int) - 1074) ∧ m * 2 ^ e = mag (b % top) := by
 unfold top inf at *
 unfold Ieee.Format.read
 have e1 : Ieee.double.signWeight = 0x8000000000000000 := by decide
 have e2 : Ieee.double.binade = 2 ^ 52 := by decide
 have e3 : Ieee.double.infRung = 0x7ff0000000000000 := by decide
 have e4 : Ieee.double.leastPlace = -1074 := by decide
 rw [e1, e2, e3, e4]
 simp only
 by_cases h0 : b % 0x8000000000000000 < 2 ^ 52
 ·rw [if_pos h0]
  refine ⟨b % 0x8000000000000000, 0, ?_, ?_⟩
  ·simp
  ·simp only [mag]; rw [if_pos h0]; simp
 ·rw [if_neg h0, if_pos h]
  refine ⟨2 ^ 52 + b % 0x8000000000000000 % 2 ^ 52, b % 0x8000000000000000 / 2 ^ 52 - 1, ?_, ?_⟩
  ·congr 1
  ·simp only [mag]; rw [if_neg h0]

theorem read_inf (b : Nat) (h : b % top = inf) : (Ieee.double.read b) = .infinity (b / top % 2 == 1) := by
 unfold top inf at *
 unfold Ieee.Format.read
 have e1 : Ieee.double.signWeight = 0x8000000000000000 := by decide
 have e2 : Ieee.double.binade = 2 ^ 52 := by decide
 have e3 : Ieee.double.infRung = 0x7ff0000000000000 := by decide
 rw [e1, e2, e3]
 simp only
 rw [if_neg (by omega), if_neg (by omega), if_pos h]

theorem read_nan (b : Nat) (h : inf < b % top) : ∃ f, (Ieee.double.read b) = .nan (b / top % 2 == 1) f := by
 unfold top inf at *
 unfold Ieee.Format.read
 have e1 : Ieee.double.signWeight = 0x8000000000000000 := by decide
 have e2 : Ieee.double.binade = 2 ^ 52 := by decide
 have e3 : Ieee.double.infRung = 0x7ff0000000000000 := by decide
 rw [e1, e2, e3]
 simp only
 rw [if_neg (by omega), if_neg (by omega), if_neg (by omega)]
 exact ⟨_, rfl⟩

theorem order_nan_left (a b : Nat) (h : isNaN a = true) : FloatKind.f64.format.order a b = none := by
 simp only [isNaN, decide_eq_true_eq] at h
 obtain ⟨f, hf⟩ := read_nan a h
 show Ieee.double.order a b = none
 simp only [Ieee.Format.order, hf]
 simp [Ieee.Datum.order]

theorem order_nan_right (a b : Nat) (h : isNaN b = true) : FloatKind.f64.format.order a b = none := by
 simp only [isNaN, decide_eq_true_eq] at h
 obtain ⟨f, hf⟩ := read_nan b h
 show Ieee.double.order a b = none
 simp only [Ieee.Format.order, hf]
 cases Ieee.double.read a <;> simp [Ieee.Datum.order]

theorem fkey_eq (b : Nat) : fkey b = sg (b / top % 2 == 1) (b % top) := rfl

theorem order_num (a b : Nat) (ha : isNaN a = false) (hb : isNaN b = false) : FloatKind.f64.format.order a b = some (compare (fkey a) (fkey b)) := by
 have ha' : b % top ≤ inf := by simp [isNaN] at hb; exact hb
 have hb' : a % top ≤ inf := by simp [isNaN] at ha; exact ha
 show Ieee.double.order a b = _
 rw [fkey_eq, fkey_eq]
 simp only [Ieee.Format.order]
 by_cases h1 : a % top = inf
 ·rw [read_inf a h1]
  by_cases h2 : b % top = inf
  ·rw [read_inf b h2, h1, h2]
   unfold inf
   cases (a / top % 2 == 1) <;> cases (b / top % 2 == 1) <;> simp [Ieee.Datum.order, sg] <;> decide
  ·obtain ⟨n, f, hn, hf⟩ := read_fin b (by omega)
   rw [hn, h1]
   have : b % top < inf := by omega
   generalize b % top = r at *
   unfold inf at *
   cases (a / top % 2 == 1) <;> cases (b / top % 2 == 1) <;> simp [Ieee.Datum.order, sg, compare, compareOfLessAndEq] <;> (try split) <;> (try split) <;> first | rfl | omega
 ·obtain ⟨m, e, hm, he⟩ := read_fin a (by omega)
  rw [hm]
  by_cases h2 : b % top = inf
  ·rw [read_inf b h2, h2]
   have : a % top < inf := by omega
   generalize a % top = r at *
   unfold inf at *
   cases (a / top % 2 == 1) <;> cases (b / top % 2 == 1) <;> simp [Ieee.Datum.order, sg, compare, compareOfLessAndEq] <;> (try split) <;> (try split) <;> first | rfl | omega
  ·obtain ⟨n, f, hn, hf⟩ := read_fin b (by omega)
   rw [hn]
   generalize (a / top % 2 == 1) = s
   generalize (b / top % 2 == 1) = t
   simp only [Ieee.Datum.order, signed_eq]
   rw [← cmp_sg_mag s t (a % top) (b % top), ← he, ← hf]
   congr 1
   rcases Nat.le_total e f with h | h
   ·obtain ⟨d, rfl⟩ := Nat.exists_eq_add_of_le h
    have e1 : min ((e : Int) - 1074) (((e + d : Nat) : Int) - 1074) = (e : Int) - 1074 := by omega
    rw [e1]
    have e2 : ((e : Int) - 1074 - ((e : Int) - 1074)).toNat = 0 := by omega
    have e3 : (((e + d : Nat) : Int) - 1074 - ((e : Int) - 1074)).toNat = d := by omega
    rw [e2, e3, Nat.pow_add, ← cmp_scale _ _ (2 ^ e) (Nat.two_pow_pos _), sg_mul, sg_mul, Nat.pow_zero, Nat.mul_one]
    congr 2
    rw [Nat.mul_assoc, Nat.mul_comm (2 ^ d)]
   ·obtain ⟨d, rfl⟩ := Nat.exists_eq_add_of_le h
    have e1 : min (((f + d : Nat) : Int) - 1074) ((f : Int) - 1074) = (f : Int) - 1074 := by omega
    rw [e1]
    have e2 : ((f : Int) - 1074 - ((f : Int) - 1074)).toNat = 0 := by omega
    have e3 : (((f + d : Nat) : Int) - 1074 - ((f : Int) - 1074)).toNat = d := by omega
    rw [e2, e3, Nat.pow_add, ← cmp_scale _ _ (2 ^ f) (Nat.two_pow_pos _), sg_mul, sg_mul, Nat.pow_zero, Nat.mul_one]
    congr 2
    rw [Nat.mul_assoc, Nat.mul_comm (2 ^ d)]

structure Key where
 v : Int
 lo : -(inf : Int) ≤ v
 hi : v ≤ (inf : Int)

theorem Key.ext' {a b : Key} (h : a.v = b.v) : a = b := by cases a; cases b; simp at h; subst h; rfl
theorem Key.eq_iff {a b : Key} : a = b ↔ a.v = b.v := ⟨fun h => by rw [h], Key.ext'⟩

def Key.bits (k : Key) : Nat := if 0 ≤ k.v then k.v.toNat else top + (-k.v).toNat

theorem Key.bits_lt (k : Key) : k.bits < 2 ^ 64 := by
 have h1 := k.lo; have h2 := k.hi
 unfold Key.bits inf top at *
 split <;> omega

theorem Key.bits_nan (k : Key) : isNaN k.bits = false := by
 have h1 := k.lo; have h2 := k.hi
 unfold Key.bits isNaN inf top at *
 simp only [decide_eq_false_iff_not]
 split <;> omega

theorem Key.bits_fkey (k : Key) : fkey k.bits = k.v := by
 have h1 := k.lo; have h2 := k.hi
 unfold Key.bits fkey inf top at *
 split
 ·have e : k.v.toNat / 9223372036854775808 = 0 := by omega
  have e' : k.v.toNat % 9223372036854775808 = k.v.toNat := by omega
  rw [e, e']; simp; omega
 ·have e : (9223372036854775808 + (-k.v).toNat) / 9223372036854775808 = 1 := by omega
  have e' : (9223372036854775808 + (-k.v).toNat) % 9223372036854775808 = (-k.v).toNat := by omega
  rw [e, e']; simp; omega

theorem fkey_bd (b : Nat) (h : isNaN b = false) : -(inf : Int) ≤ fkey b ∧ fkey b ≤ (inf : Int) := by
 simp [isNaN] at h
 unfold fkey
 split <;> omega

def kof (b : Nat) : Key := if h : isNaN b = false then ⟨fkey b, (fkey_bd b h).1, (fkey_bd b h).2⟩ else ⟨0, by unfold inf; omega, by unfold inf; omega⟩

theorem kof_v {b : Nat} (h : isNaN b = false) : (kof b).v = fkey b := by simp [kof, h]
theorem Key.kof_bits (k : Key) : kof k.bits = k := Key.ext' (by rw [kof_v k.bits_nan, k.bits_fkey])

theorem fkey_pos {b : Nat} (h : b < top) : fkey b = (b : Int) := by
 unfold fkey; rw [Nat.div_eq_of_lt h, Nat.mod_eq_of_lt h]; simp
theorem fkey_neg {b : Nat} (h : top ≤ b) (h2 : b < top + top) : fkey b = -((b - top : Nat) : Int) := by
 have e1 : b / top = 1 := Nat.div_eq_of_lt_le (by omega) (by omega)
 have e2 : b % top = b - top := by rw [Nat.mod_eq_sub_mod h, Nat.mod_eq_of_lt (by omega)]
 unfold fkey; rw [e1, e2]; simp

theorem two64 : 2 ^ 64 = top + top := by unfold top; rfl

theorem bits_kof {b : Nat} (hb : b < 2 ^ 64) (h : isNaN b = false) (hz : b ≠ top) : (kof b).bits = b := by
 have hv := kof_v h
 rw [two64] at hb
 unfold Key.bits
 rw [hv]
 by_cases hlt : b < top
 ·rw [fkey_pos hlt, if_pos (by omega)]; omega
 ·rw [fkey_neg (by omega) hb, if_neg (by omega)]; omega

theorem kof_top : kof top = ⟨0, by unfold inf; omega, by unfold inf; omega⟩ := by
 apply Key.ext'
 rw [kof_v (by simp [isNaN, inf, top])]
 simp [fkey, top]

theorem cmp_lt (a b : Int) : (some (compare a b) == some Ordering.lt) = decide (a < b) := by
 simp only [compare, compareOfLessAndEq]
 by_cases h : a < b
 ·simp [h]
 ·by_cases h2 : a = b <;> simp [h, h2]
theorem cmp_eq (a b : Int) : (some (compare a b) == some Ordering.eq) = decide (a = b) := by
 simp only [compare, compareOfLessAndEq]
 by_cases h : a < b
 ·have : a ≠ b := by omega
  simp [h, this]
 ·by_cases h2 : a = b <;> simp [h, h2]
theorem cmp_gt (a b : Int) : (some (compare a b) == some Ordering.gt) = decide (b < a) := by
 simp only [compare, compareOfLessAndEq]
 by_cases h : a < b
 ·have : ¬ b < a := by omega
  simp [h, this]
 ·by_cases h2 : a = b
  ·subst h2; simp
  ·have : b < a := by omega
   simp [h, h2, this]

def feq (a b : Nat) : Bool := !isNaN a && !isNaN b && decide ((kof a).v = (kof b).v)
def flt (a b : Nat) : Bool := !isNaN a && !isNaN b && decide ((kof a).v < (kof b).v)
def fle (a b : Nat) : Bool := !isNaN a && !isNaN b && decide ((kof a).v ≤ (kof b).v)

theorem ord_eq (a b : Nat) : (FloatKind.f64.format.order a b == some Ordering.eq) = feq a b := by
 unfold feq
 cases ha : isNaN a
 ·cases hb : isNaN b
  ·rw [order_num a b ha hb, cmp_eq, kof_v ha, kof_v hb]; simp
  ·rw [order_nan_right a b hb]; simp
 ·rw [order_nan_left a b ha]; simp
theorem ord_lt (a b : Nat) : (FloatKind.f64.format.order a b == some Ordering.lt) = flt a b := by
 unfold flt
 cases ha : isNaN a
 ·cases hb : isNaN b
  ·rw [order_num a b ha hb, cmp_lt, kof_v ha, kof_v hb]; simp
  ·rw [order_nan_right a b hb]; simp
 ·rw [order_nan_left a b ha]; simp
theorem ord_gt (a b : Nat) : (FloatKind.f64.format.order a b == some Ordering.gt) = flt b a := by
 unfold flt
 cases ha : isNaN a
 ·cases hb : isNaN b
  ·rw [order_num a b ha hb, cmp_gt, kof_v ha, kof_v hb]; simp
  ·rw [order_nan_right a b hb]; simp
 ·rw [order_nan_left a b ha]; simp
theorem ord_ne (a b : Nat) : (FloatKind.f64.format.order a b != some Ordering.eq) = !feq a b := by
 rw [← ord_eq]; rfl
theorem lt_or_eq (a b : Nat) : (flt a b || feq a b) = fle a b := by
 unfold flt feq fle
 cases isNaN a <;> cases isNaN b <;> simp
 rw [← Bool.decide_or]
 apply decide_eq_decide.2
 omega
theorem gt_or_eq (a b : Nat) : (flt b a || feq a b) = fle b a := by
 unfold flt feq fle
 cases isNaN a <;> cases isNaN b <;> simp
 rw [← Bool.decide_or]
 apply decide_eq_decide.2
 omega
theorem feq_self (a : Nat) : feq a a = !isNaN a := by unfold feq; simp

theorem feq_kk (a b : Key) : feq a.bits b.bits = decide (a.v = b.v) := by simp [feq, Key.bits_nan, Key.kof_bits]
theorem flt_kk (a b : Key) : flt a.bits b.bits = decide (a.v < b.v) := by simp [flt, Key.bits_nan, Key.kof_bits]
theorem fle_kk (a b : Key) : fle a.bits b.bits = decide (a.v ≤ b.v) := by simp [fle, Key.bits_nan, Key.kof_bits]

def knext (k : Key) : Key := if h : k.v = (inf : Int) then k else ⟨k.v + 1, by have := k.lo; omega, by have := k.hi; omega⟩
def kprev (k : Key) : Key := if h : k.v = -(inf : Int) then k else ⟨k.v - 1, by have := k.lo; omega, by have := k.hi; omega⟩
theorem knext_v {k : Key} (h : k.v ≠ (inf : Int)) : (knext k).v = k.v + 1 := by simp [knext, h]
theorem kprev_v {k : Key} (h : k.v ≠ -(inf : Int)) : (kprev k).v = k.v - 1 := by simp [kprev, h]

def kzero : Key := ⟨0, by unfold inf; omega, by unfold inf; omega⟩
def ktop : Key := ⟨inf, by unfold inf; omega, by omega⟩
def kbot : Key := ⟨-(inf : Int), by omega, by unfold inf; omega⟩
def kmax : Key := ⟨9218868437227405311, by unfold inf; omega, by unfold inf; omega⟩
theorem kzero_bits : kzero.bits = 0 := by simp [kzero, Key.bits]
theorem ktop_bits : ktop.bits = inf := by simp [ktop, Key.bits]
theorem kbot_bits : kbot.bits = top + inf := by simp [kbot, Key.bits, inf]
theorem kmax_bits : kmax.bits = 9218868437227405311 := by simp [kmax, Key.bits]

theorem flt_max (k : Key) : flt 9218868437227405311 k.bits = decide ((inf : Int) ≤ k.v) := by
 rw [← kmax_bits, flt_kk]
 apply decide_eq_decide.2
 unfold kmax inf; simp only; omega
theorem flt_zero (k : Key) : flt 0 k.bits = decide (0 < k.v) := by rw [← kzero_bits, flt_kk]; rfl
theorem feq_zero (k : Key) : feq k.bits 0 = decide (k.v = 0) := by rw [← kzero_bits, feq_kk]; rfl
theorem feq_top (k : Key) : feq k.bits inf = decide (k.v = (inf : Int)) := by rw [← ktop_bits, feq_kk]; rfl
theorem flt_top (k : Key) : flt k.bits inf = decide (k.v < (inf : Int)) := by rw [← ktop_bits, flt_kk]; rfl
theorem feq_bot (k : Key) : feq k.bits (top + inf) = decide (k.v = -(inf : Int)) := by rw [← kbot_bits, feq_kk]; rfl
theorem flt_bot (k : Key) : flt k.bits (top + inf) = decide (k.v < -(inf : Int)) := by rw [← kbot_bits, flt_kk]; rfl

def cbits (b : Nat) : Nat := if isNaN b then nanBits else (kof b).bits

theorem kof_zero : (kof 0).v = 0 := by rw [kof_v (by simp [isNaN])]; simp [fkey]
theorem cbits_zero {b : Nat} (h : feq b 0 = true) : cbits b = 0 := by
 simp only [feq, Bool.and_eq_true, Bool.not_eq_true', decide_eq_true_eq] at h
 unfold cbits Key.bits
 rw [if_neg (by simp [h.1.1]), h.2, kof_zero]
 simp
theorem cbits_other {b : Nat} (hb : b < 2 ^ 64) (hn : isNaN b = false) (h : feq b 0 = false) : cbits b = b := by
 unfold cbits
 rw [if_neg (by simp [hn])]
 refine bits_kof hb hn ?_
 rintro rfl
 simp [feq, hn, kof_zero, kof_top, show isNaN 0 = false by simp [isNaN]] at h
theorem cbits_key (k : Key) : cbits k.bits = k.bits := by simp [cbits, k.bits_nan, k.kof_bits]
theorem cbits_nan {b : Nat} (h : isNaN b = true) : cbits b = nanBits := by simp [cbits, h]
theorem cbits_num {b : Nat} (h : isNaN b = false) : cbits b = (kof b).bits := by simp [cbits, h]
theorem cbits_lt (b : Nat) : cbits b < 2 ^ 64 := by
 unfold cbits; split
 ·unfold nanBits; omega
 ·exact Key.bits_lt _

theorem cbits_top : cbits top = 0 := by
 refine cbits_zero ?_
 simp [feq, kof_zero, kof_top, show isNaN 0 = false by simp [isNaN], show isNaN top = false by simp [isNaN, top, inf]]

theorem xor_top {n : Nat} (h : n < top) : n ^^^ top = n + top := by
 have hj : (n ||| top) = n + top := by
  have h2 : n < 2 ^ 63 := h
  have := Nat.two_pow_add_eq_or_of_lt (i := 63) h2 1
  rw [Nat.or_comm, Nat.add_comm]
  unfold top; simpa using this.symm
 rw [← hj]
 apply Nat.eq_of_testBit_eq
 intro i
 rw [Nat.testBit_xor, Nat.testBit_or]
 by_cases hi : i = 63
 ·subst hi
  rw [Nat.testBit_lt_two_pow (show n < 2 ^ 63 from h)]; simp
 ·have : Nat.testBit top i = false := by
   rw [show top = 2 ^ 63 from rfl, Nat.testBit_two_pow]; simp; omega
  rw [this]; simp

def kneg (k : Key) : Key := ⟨-k.v, by have := k.hi; omega, by have := k.lo; omega⟩
theorem neg_key {k : Key} (h : k.v ≠ 0) : Op.negFloat .f64 k.bits = (kneg k).bits := by
 have e : Op.negFloat .f64 k.bits = k.bits ^^^ top := rfl
 have h1 := k.lo; have h2 := k.hi
 rw [e]
 by_cases hp : 0 ≤ k.v
 ·have hb : k.bits = k.v.toNat := by simp [Key.bits, hp]
  have hc : (kneg k).bits = top + k.v.toNat := by
   unfold Key.bits kneg; rw [if_neg (by simp only; omega)]; simp
  rw [hb, hc, xor_top (by unfold inf top at *; omega), Nat.add_comm]
 ·have hb : k.bits = top + (-k.v).toNat := by unfold Key.bits; rw [if_neg hp]
  have hc : (kneg k).bits = (-k.v).toNat := by
   unfold Key.bits kneg; rw [if_pos (by simp only; omega)]
  rw [hb, hc, Nat.add_comm, ← xor_top (by unfold inf top at *; omega), Nat.xor_assoc, Nat.xor_self, Nat.xor_zero]
theorem neg_zero {k : Key} (h : k.v = 0) : Op.negFloat .f64 k.bits = top := by
 have e : Op.negFloat .f64 k.bits = k.bits ^^^ top := rfl
 rw [e, show k.bits = 0 by simp [Key.bits, h], Nat.zero_xor]
theorem flt_max_neg (k : Key) : flt 9218868437227405311 (Op.negFloat .f64 k.bits) = decide (k.v ≤ -(inf : Int)) := by
 by_cases h : k.v = 0
 ·rw [neg_zero h]
  rw [← kmax_bits]
  simp only [flt, kof_top, Key.kof_bits, h]
  simp [kmax, show ¬ inf = 0 by unfold inf; omega]
 ·rw [neg_key h, flt_max]
  apply decide_eq_decide.2
  unfold kneg; simp only; omega

def nup (k : Key) : Nat := if 0 ≤ k.v then k.bits + 1 else k.bits - 1
def ndown (k : Key) : Nat := if k.v = 0 then top + 1 else if 0 < k.v then k.bits - 1 else k.bits + 1

theorem nup_lt (k : Key) : nup k < 2 ^ 64 := by
 have h1 := k.lo; have h2 := k.hi
 unfold nup Key.bits inf top at *
 repeat' split
 all_goals omega
theorem ndown_lt (k : Key) : ndown k < 2 ^ 64 := by
 have h1 := k.lo; have h2 := k.hi
 unfold ndown Key.bits inf top at *
 repeat' split
 all_goals omega

theorem cbits_nup {k : Key} (h : k.v ≠ (inf : Int)) : cbits (nup k) = (knext k).bits := by
 by_cases h1 : k.v = -1
 ·have e : nup k = top := by
   unfold nup Key.bits top; rw [if_neg (by omega), if_neg (by omega), h1]; simp
  rw [e, cbits_top]
  unfold Key.bits; rw [knext_v h, h1]; simp
 ·have e : nup k = (knext k).bits := by
   have h2 := k.hi; have h3 := k.lo
   have := knext_v h
   unfold nup Key.bits inf top at *
   rw [this]
   repeat' split
   all_goals omega
  rw [e, cbits_key]

theorem cbits_ndown {k : Key} (h : k.v ≠ -(inf : Int)) : cbits (ndown k) = (kprev k).bits := by
 have e : ndown k = (kprev k).bits := by
  have h2 := k.hi; have h3 := k.lo
  have := kprev_v h
  unfold ndown Key.bits inf top at *
  rw [this]
  repeat' split
  all_goals omega
 rw [e, cbits_key]

end Fl
end Go.Proofs.YtekmadgacepdfaaGreat
