/- What all seats want of spans: literals; forms and contracts in one shape, by their parts. -/
import Derived.Test.YtibimhjbhincnaaA3
import Derived.Test.YtibimhjbhincnaaR5
import Derived.Test.YtibimhjbhincnaaE
namespace Go.Proofs.Ytibimhjbhincnaa
set_option linter.unusedVariables false
open Go.RowKit Fl

@[go_sem] theorem run_equalIn_float (d : Nat) (a b : Nat) (w : World) : (Op.equalIn (d + 1) 22 (.float .f64 a) (.float .f64 b)).run Try.prog w = .ok (feq a b) w := by
  rw [← ord_eq]
  simp [Op.equalIn, run_underlying Try.underlying22, Op.floatEq]

def klit (n : Nat) (h : n ≤ inf) : Key := ⟨n, by omega, by omega⟩
theorem klit_bits (n : Nat) (h : n ≤ inf) : (klit n h).bits = n := by
  unfold Key.bits klit; rw [if_pos (by simp only; omega)]; rfl
theorem klit_nan (n : Nat) (h : n ≤ inf) : isNaN n = false := by rw [← klit_bits n h]; exact Key.bits_nan _
theorem klit_kof (n : Nat) (h : n ≤ inf) : kof n = klit n h := by
  have := Key.kof_bits (klit n h); rw [klit_bits] at this; exact this
theorem canonS_lit (a b : Nat) (ha : a ≤ inf) (hb : b ≤ inf) (h : a ≤ b) : canonS a b false false = some (klit a ha, klit b hb) := by
  refine canonS_some (by simp [klit_nan a ha, klit_nan b hb]) ?_ ?_ ?_
  · rw [klit_kof a ha]; simp
  · rw [klit_kof b hb]; simp
  · unfold klit; simp only; omega

theorem at_spv (a b : Nat) (ha : a ≤ inf) (hb : b ≤ inf) : spv (some (klit a ha, klit b hb)) = .agg #[.float .f64 a, .float .f64 b, .bool false, .bool false] := by
  rw [spv_some, klit_bits, klit_bits]

/-- Canon at two literals. -/
theorem canon_lit (a b : Nat) (ha : a ≤ inf) (hb : b ≤ inf) (h : a ≤ b) (w : World) :
    Calls Try.prog 18 #[.agg #[.float .f64 a, .float .f64 b, .bool false, .bool false]] w (Ret (.agg #[.float .f64 a, .float .f64 b, .bool false, .bool false]) w) := by
  have h1 := canon_any a b false false w (by unfold inf at ha; omega) (by unfold inf at hb; omega)
  rw [canonS_lit a b ha hb h, at_spv] at h1
  exact h1

theorem feq_lit (a : Nat) (ha : a ≤ inf) : feq a a = true := by rw [feq_self, klit_nan a ha]; rfl

theorem canonS_le {lo hi : Nat} {a b : Bool} {l h : Key} (e : canonS lo hi a b = some (l, h)) : l.v ≤ h.v := by
  by_cases hlh : (kof lo).v + (if a then 1 else 0) ≤ (kof hi).v - (if b then 1 else 0)
  · by_cases hn : (isNaN lo || isNaN hi) = true
    · unfold canonS at e; rw [if_pos hn] at e; cases e
    · unfold canonS at e
      rw [if_neg hn, dif_pos hlh] at e
      rw [Option.some.injEq, Prod.mk.injEq] at e
      rw [← e.1, ← e.2]; exact hlh
  · rw [canonS_none hlh] at e; cases e

theorem refOf_is (lo hi : Nat) (a b : Bool) (r : Rg) (w : World) (hl : lo < 2 ^ 64) (hh : hi < 2 ^ 64) (hr : Hid (canonS lo hi a b = r)) :
    Calls Try.prog 16 #[.agg #[.float .f64 lo, .float .f64 hi, .bool a, .bool b]] w (Ret (rgv r) w) := by
  have h := refOf_any lo hi a b w hl hh
  rw [hr.out] at h
  exact h
theorem empty_is (lo hi : Nat) (a b : Bool) (r : Bool) (w : World) (hl : lo < 2 ^ 64) (hh : hi < 2 ^ 64) (hr : Hid ((canonS lo hi a b).isNone = r)) :
    Calls Try.prog 20 #[.agg #[.float .f64 lo, .float .f64 hi, .bool a, .bool b]] w (Ret (.bool r) w) := by
  have h := empty_any lo hi a b w hl hh
  rw [hr.out] at h
  exact h
theorem canonS_num {lo hi : Nat} {a b : Bool} {r : Key × Key} (e : canonS lo hi a b = some r) : isNaN lo = false ∧ isNaN hi = false := by
  cases h1 : isNaN lo
  · cases h2 : isNaN hi
    · exact ⟨rfl, rfl⟩
    · unfold canonS at e; rw [if_pos (by simp [h2])] at e; cases e
  · unfold canonS at e; rw [if_pos (by simp [h1])] at e; cases e

theorem canonS_canon (l h : Key) (hlh : l.v ≤ h.v) : canonS l.bits h.bits false false = some (l, h) := by
  refine canonS_some (by simp [Key.bits_nan]) ?_ ?_ hlh
  · rw [Key.kof_bits]; simp
  · rw [Key.kof_bits]; simp
theorem canonS_empty : canonS 0 0 true true = none := canonS_none (by rw [kof_zero]; simp)
/-- The parts of a form, and of the document's range. -/
def slo : Rg → Nat | none => 0 | some (l, _) => l.bits
def shi : Rg → Nat | none => 0 | some (_, h) => h.bits
def sop : Rg → Bool | none => true | some _ => false
def rlo : Rg → Int | none => 1 | some (l, _) => kcode l
def rhi : Rg → Int | none => 0 | some (_, h) => kcode h
/-- The keys rise. -/
def okR : Rg → Prop | none => True | some (l, h) => l.v ≤ h.v

theorem spv_gen (r : Rg) : spv r = .agg #[.float .f64 (slo r), .float .f64 (shi r), .bool (sop r), .bool (sop r)] := by rcases r with _ | ⟨l, h⟩ <;> rfl
theorem slo_lt (r : Rg) : slo r < 2 ^ 64 := by
  rcases r with _ | ⟨l, h⟩
  · exact Nat.two_pow_pos 64
  · exact Key.bits_lt l
theorem shi_lt (r : Rg) : shi r < 2 ^ 64 := by
  rcases r with _ | ⟨l, h⟩
  · exact Nat.two_pow_pos 64
  · exact Key.bits_lt h
theorem feq_slo (r : Rg) : feq (slo r) (slo r) = true := by
  rw [feq_self]; rcases r with _ | ⟨l, h⟩
  · exact feq_self 0 ▸ feq_lit 0 (by unfold inf; omega)
  · simp [slo, Key.bits_nan]
theorem feq_shi (r : Rg) : feq (shi r) (shi r) = true := by
  rw [feq_self]; rcases r with _ | ⟨l, h⟩
  · exact feq_self 0 ▸ feq_lit 0 (by unfold inf; omega)
  · simp [shi, Key.bits_nan]
theorem isNaN_slo (r : Rg) : isNaN (slo r) = false := by have := feq_slo r; rw [feq_self] at this; simpa using this
theorem isNaN_shi (r : Rg) : isNaN (shi r) = false := by have := feq_shi r; rw [feq_self] at this; simpa using this
theorem okR_canon (lo hi : Nat) (a b : Bool) : okR (canonS lo hi a b) := by
  rcases e : canonS lo hi a b with _ | ⟨l, h⟩
  · trivial
  · exact canonS_le e
theorem canonS_gen {r : Rg} (ok : okR r) : canonS (slo r) (shi r) (sop r) (sop r) = r := by
  rcases r with _ | ⟨l, h⟩
  · exact canonS_empty
  · exact canonS_canon l h ok
theorem canonG (lo hi : Nat) (a b : Bool) (r : Rg) (w : World) (hl : lo < 2 ^ 64) (hh : hi < 2 ^ 64) (hr : Hid (canonS lo hi a b = r)) :
    Calls Try.prog 18 #[.agg #[.float .f64 lo, .float .f64 hi, .bool a, .bool b]] w (Ret (.agg #[.float .f64 (slo r), .float .f64 (shi r), .bool (sop r), .bool (sop r)]) w) := by
  have h := canon_any lo hi a b w hl hh
  rw [hr.out, spv_gen] at h
  exact h
theorem refOfG (lo hi : Nat) (a b : Bool) (r : Rg) (w : World) (hl : lo < 2 ^ 64) (hh : hi < 2 ^ 64) (hr : Hid (canonS lo hi a b = r)) :
    Calls Try.prog 16 #[.agg #[.float .f64 lo, .float .f64 hi, .bool a, .bool b]] w (Ret (.agg #[.int .u64 (rlo r), .int .u64 (rhi r)]) w) := by
  have h := refOf_is lo hi a b r w hl hh hr
  rcases r with _ | ⟨l, h'⟩ <;> exact h
theorem sameSpan_refl (a0 a1 : Nat) (a2 a3 : Bool) (w : World) :
    Calls Try.prog 17 #[.agg #[.float .f64 a0, .float .f64 a1, .bool a2, .bool a3], .agg #[.float .f64 a0, .float .f64 a1, .bool a2, .bool a3]] w (Ret (.bool true) w) := by
  have h := sameSpan_any a0 a1 a0 a1 a2 a3 a2 a3 w
  rw [show sameSp a0 a1 a2 a3 a0 a1 a2 a3 = true by simp [sameSp]] at h
  exact h
theorem refEmpty_some (l h : Key) (hlh : Hid (l.v ≤ h.v)) (w : World) : Calls Try.prog 21 #[.agg #[.int .u64 (kcode l), .int .u64 (kcode h)]] w (Ret (.bool false) w) := by
  have h1 := refEmpty_any (kcode l) (kcode h) w
  rw [show decide (kcode h < kcode l) = false by rw [decide_eq_false_iff_not, kcode_lt]; have := hlh.out; omega] at h1
  exact h1
theorem refEmpty_none (w : World) : Calls Try.prog 21 #[.agg #[.int .u64 1, .int .u64 0]] w (Ret (.bool true) w) := refEmpty_any 1 0 w

theorem refEmptyG (r : Rg) (v : Bool) (w : World) (ok : Hid (okR r)) (hv : Hid (r.isNone = v)) :
    Calls Try.prog 21 #[.agg #[.int .u64 (rlo r), .int .u64 (rhi r)]] w (Ret (.bool v) w) := by
  have hv' := hv.out
  subst hv'
  rcases r with _ | ⟨l, h⟩
  · exact refEmpty_none w
  · exact refEmpty_some l h ok w
theorem refSpanG (r : Rg) (w : World) (ok : Hid (okR r)) :
    Calls Try.prog 19 #[.agg #[.int .u64 (rlo r), .int .u64 (rhi r)]] w (Ret (.agg #[.float .f64 (slo r), .float .f64 (shi r), .bool (sop r), .bool (sop r)]) w) := by
  rw [← spv_gen]
  rcases r with _ | ⟨l, h⟩
  · exact refSpan_none w
  · exact refSpan_some l h ok.out w
theorem sameSpanG (r : Rg) (w : World) :
    Calls Try.prog 17 #[.agg #[.float .f64 (slo r), .float .f64 (shi r), .bool (sop r), .bool (sop r)], .agg #[.float .f64 (slo r), .float .f64 (shi r), .bool (sop r), .bool (sop r)]] w (Ret (.bool true) w) :=
  sameSpan_refl _ _ _ _ w
theorem has_is (lo hi : Nat) (a b : Bool) (key : Nat) (v : Bool) (w : World) (hl : lo < 2 ^ 64) (hh : hi < 2 ^ 64) (hv : Hid (hasB (canonS lo hi a b) key = v)) :
    Calls Try.prog 24 #[.agg #[.float .f64 lo, .float .f64 hi, .bool a, .bool b], .float .f64 key] w (Ret (.bool v) w) := by
  have h := has_any lo hi a b key w hl hh
  rw [hv.out] at h
  exact h

theorem canonS_one {a : Nat} (h : isNaN a = false) : canonS a a false false = some (kof a, kof a) := canonS_some (by simp [h]) (by simp) (by simp) (by omega)

theorem one_isN (key : Nat) (w : World) (hl : key < 2 ^ 64) (hr : Hid (canonS key key false false = none)) :
    Calls Try.prog 30 #[.float .f64 key] w (Ret (.agg #[.float .f64 0, .float .f64 0, .bool true, .bool true]) w) := by
  have h := one_any key w hl
  rw [hr.out] at h
  exact h
theorem one_isS (key : Nat) (l h : Key) (w : World) (hl : key < 2 ^ 64) (hr : Hid (canonS key key false false = some (l, h))) :
    Calls Try.prog 30 #[.float .f64 key] w (Ret (.agg #[.float .f64 l.bits, .float .f64 h.bits, .bool false, .bool false]) w) := by
  have h := one_any key w hl
  rw [hr.out] at h
  exact h
end Go.Proofs.Ytibimhjbhincnaa
