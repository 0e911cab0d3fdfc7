/- Walks of the references' ranges. -/
import Derived.Test.YtibimhjbhincnaaR1
namespace Go.Proofs.Ytibimhjbhincnaa
set_option linter.unusedVariables false
open Go.RowKit Fl

@[go_sem] theorem fieldRg0 (x0 x1 : Value) (w : World) : (Instr.field 28 (.agg #[x0, x1]) 0).run Try.prog w = .ok x0 w := by kernel_rfl
@[go_sem] theorem fieldRg1 (x0 x1 : Value) (w : World) : (Instr.field 28 (.agg #[x0, x1]) 1).run Try.prog w = .ok x1 w := by kernel_rfl

/-- The value of a range of codes. -/
def rgv : Rg → Value
  | none => .agg #[.int .u64 1, .int .u64 0]
  | some (l, h) => .agg #[.int .u64 (kcode l), .int .u64 (kcode h)]
@[go_sem] theorem rgv_none : rgv none = .agg #[.int .u64 1, .int .u64 0] := rfl
@[go_sem] theorem rgv_some (l h : Key) : rgv (some (l, h)) = .agg #[.int .u64 (kcode l), .int .u64 (kcode h)] := rfl

theorem refNone_any (w : World) : Calls Try.prog 52 #[] w (Ret (rgv none) w) := by
  go_enter Try.func52, Try.ntmps52
  go_wp2
  exact bodyPost_ret (v := rgv none) (by simp [results, Try.results52, go_sem]) rfl ⟨rfl, by (repeat (first | with_reducible exact Below.refl _ _ | ((with_reducible refine Below.alloc1 ?_ ?_ _); (· first | omega | (simp; done) | (simp; omega))) | (with_reducible refine Below.drew ?_) | (with_reducible refine below_drewN' ?_ _) | ((with_reducible refine Below.setCell1 ?_ ?_ _); (· first | omega | (simp; done) | (simp; omega))) | ((with_reducible refine Below.after (by assumption) ?_ ?_); (· first | omega | (simp; done) | (simp; omega)))))⟩

/-- What the end of Of comes to. -/
def endB (lo hi : Int) : Bool := decide (hi < lo) || !isCode lo || !isCode hi || (hi == 0)
def ofEnd (lo hi : Int) : Value := if endB lo hi then .agg #[.int .u64 1, .int .u64 0] else .agg #[.int .u64 lo, .int .u64 hi]

theorem refOf_nan (lo hi : Nat) (a b : Bool) (w : World) (hl : lo < 2 ^ 64) (hh : hi < 2 ^ 64) (hn : (isNaN lo || isNaN hi) = true) :
    Calls Try.prog 16 #[.agg #[.float .f64 lo, .float .f64 hi, .bool a, .bool b]] w (Ret (rgv none) w) := by
  cases h1 : isNaN lo
  · have h2 : isNaN hi = true := by simpa [h1] using hn
    clear hn
    go_enter Try.func16, Try.ntmps16
    go_wp2_with (first | (go_at_call 23; (with_reducible refine (refNan_any _ (by assumption) _).mono ?_); rintro e w' ⟨rfl, rfl⟩) | (go_at_call 52; (with_reducible refine (refNone_any _).mono ?_); rintro e w1 ⟨rfl, hb1⟩; obtain ⟨hc1, hf1⟩ := bcell hb1; (try simp only [World.heap_drewN, World.cell?_drewN, World.frozen?_drewN] at hc1 hf1); have hz1 := hb1.size; (try simp at hz1); (try have hy1_0 : w.heap.size < w1.heap.size := by omega); (try have hy1_1 : w.heap.size + 1 < w1.heap.size := by omega); (try have hy1_2 : w.heap.size + 2 < w1.heap.size := by omega); (try have hy1_3 : w.heap.size + 3 < w1.heap.size := by omega); (try have hx1_0 : w.heap.size ≤ w1.heap.size := by omega); (try have hx1_1 : w.heap.size + 1 ≤ w1.heap.size := by omega); (try have hx1_2 : w.heap.size + 2 ≤ w1.heap.size := by omega)))
    exact bodyPost_ret (v := rgv none) (by simp [results, Try.results16, go_sem, *]) rfl ⟨rfl, by (repeat (first | with_reducible exact Below.refl _ _ | ((with_reducible refine Below.alloc1 ?_ ?_ _); (· first | omega | (simp; done) | (simp; omega))) | (with_reducible refine Below.drew ?_) | (with_reducible refine below_drewN' ?_ _) | ((with_reducible refine Below.setCell1 ?_ ?_ _); (· first | omega | (simp; done) | (simp; omega))) | ((with_reducible refine Below.after (by assumption) ?_ ?_); (· first | omega | (simp; done) | (simp; omega)))))⟩
  · clear hn
    go_enter Try.func16, Try.ntmps16
    go_wp2_with (first | (go_at_call 23; (with_reducible refine (refNan_any _ (by assumption) _).mono ?_); rintro e w' ⟨rfl, rfl⟩) | (go_at_call 52; (with_reducible refine (refNone_any _).mono ?_); rintro e w1 ⟨rfl, hb1⟩; obtain ⟨hc1, hf1⟩ := bcell hb1; (try simp only [World.heap_drewN, World.cell?_drewN, World.frozen?_drewN] at hc1 hf1); have hz1 := hb1.size; (try simp at hz1); (try have hy1_0 : w.heap.size < w1.heap.size := by omega); (try have hy1_1 : w.heap.size + 1 < w1.heap.size := by omega); (try have hy1_2 : w.heap.size + 2 < w1.heap.size := by omega); (try have hy1_3 : w.heap.size + 3 < w1.heap.size := by omega); (try have hx1_0 : w.heap.size ≤ w1.heap.size := by omega); (try have hx1_1 : w.heap.size + 1 ≤ w1.heap.size := by omega); (try have hx1_2 : w.heap.size + 2 ≤ w1.heap.size := by omega)))
    exact bodyPost_ret (v := rgv none) (by simp [results, Try.results16, go_sem, *]) rfl ⟨rfl, by (repeat (first | with_reducible exact Below.refl _ _ | ((with_reducible refine Below.alloc1 ?_ ?_ _); (· first | omega | (simp; done) | (simp; omega))) | (with_reducible refine Below.drew ?_) | (with_reducible refine below_drewN' ?_ _) | ((with_reducible refine Below.setCell1 ?_ ?_ _); (· first | omega | (simp; done) | (simp; omega))) | ((with_reducible refine Below.after (by assumption) ?_ ?_); (· first | omega | (simp; done) | (simp; omega)))))⟩

theorem ofEnd_n1 {X Y : Int} (h : Y < X) : Ending.returned (rgv none) = .returned (ofEnd X Y) := by unfold ofEnd endB; simp [h]; rfl
theorem ofEnd_n2 {X Y : Int} (h : ¬ isCode X = true) : Ending.returned (rgv none) = .returned (ofEnd X Y) := by unfold ofEnd endB; simp [h]; rfl
theorem ofEnd_n3 {X Y : Int} (h : ¬ isCode Y = true) : Ending.returned (rgv none) = .returned (ofEnd X Y) := by unfold ofEnd endB; simp [h]; rfl
theorem ofEnd_s {X Y : Int} (h1 : X ≤ Y) (h2 : isCode X = true) (h3 : isCode Y = true) (h0 : (Y == 0) = false) : Ending.returned (.agg #[.int .u64 X, .int .u64 Y]) = .returned (ofEnd X Y) := by
  have : ¬ Y < X := by omega
  have h0' : Y ≠ 0 := by simpa using h0
  unfold ofEnd endB; simp [h2, h3, this, h0']

theorem wrap_k1 (k : Key) : IntKind.u64.wrap (kcode k + 1) = kcode k + 1 := by have := kcode_lo k; have := kcode_hi k; rw [IntKind.wrap_u64]; omega
theorem wrap_k2 (k : Key) : IntKind.u64.wrap (kcode k + 1 + 1) = kcode k + 1 + 1 := by have := kcode_lo k; have := kcode_hi k; rw [IntKind.wrap_u64]; omega
theorem wrap_m1 (k : Key) : IntKind.u64.wrap (kcode k - 1) = kcode k - 1 := by have := kcode_lo k; have := kcode_hi k; rw [IntKind.wrap_u64]; omega
theorem wrap_m2 (k : Key) : IntKind.u64.wrap (kcode k - 1 - 1) = kcode k - 1 - 1 := by have := kcode_lo k; have := kcode_hi k; rw [IntKind.wrap_u64]; omega

theorem refOf_ff (lo hi : Nat) (kl kh : Key) (w : World) (hl : lo < 2 ^ 64) (hh : hi < 2 ^ 64) (hn : (isNaN lo || isNaN hi) = false) (h1 : codeOf lo = kcode kl) (h2 : codeOf hi = kcode kh) :
    Calls Try.prog 16 #[.agg #[.float .f64 lo, .float .f64 hi, .bool false, .bool false]] w (Ret (ofEnd (kcode kl) (kcode kh)) w) := by
  have hn1 : isNaN lo = false := by cases h : isNaN lo <;> simp_all
  have hn2 : isNaN hi = false := by cases h : isNaN hi <;> simp_all
  have h0 : (kcode kh == 0) = false := by have := kcode_lo kh; rw [beq_eq_false_iff_ne]; omega
  have BD := hid (show _ ∧ _ ∧ _ ∧ _ from ⟨kcode_lo kl, kcode_hi kl, kcode_lo kh, kcode_hi kh⟩)
  clear hn
  go_enter Try.func16, Try.ntmps16
  go_wp2_with (first | (go_at_call 23; (with_reducible refine (refNan_any _ (by assumption) _).mono ?_); rintro e w' ⟨rfl, rfl⟩))
  go_quiet ((go_at_call 53; exact Calls.quiet_of_same ((refCode_any _ (by assumption) _).mono fun _ _ ⟨hq1, hq2⟩ => ⟨hq1, hq2.symm⟩)))
  go_wp2_with (first | (go_at_call 54; (with_reducible refine (refIsCode_any _ (by have := BD.out; omega) (by have := BD.out; omega) _).mono ?_); rintro e w' ⟨rfl, rfl⟩) | (go_at_call 52; (with_reducible refine (refNone_any _).mono ?_); rintro e w1 ⟨rfl, hb1⟩; obtain ⟨hc1, hf1⟩ := bcell hb1; (try simp only [World.heap_drewN, World.cell?_drewN, World.frozen?_drewN] at hc1 hf1); have hz1 := hb1.size; (try simp at hz1); (try have hy1_0 : w.heap.size < w1.heap.size := by omega); (try have hy1_1 : w.heap.size + 1 < w1.heap.size := by omega); (try have hy1_2 : w.heap.size + 2 < w1.heap.size := by omega); (try have hy1_3 : w.heap.size + 3 < w1.heap.size := by omega); (try have hx1_0 : w.heap.size ≤ w1.heap.size := by omega); (try have hx1_1 : w.heap.size + 1 ≤ w1.heap.size := by omega); (try have hx1_2 : w.heap.size + 2 ≤ w1.heap.size := by omega)))
  all_goals first
    | exact bodyPost_ret (v := rgv none) (by simp [results, Try.results16, go_sem, *]) rfl ⟨(by first | exact ofEnd_n1 (by assumption) | exact ofEnd_n2 (by assumption) | exact ofEnd_n3 (by assumption)), by (repeat (first | with_reducible exact Below.refl _ _ | ((with_reducible refine Below.alloc1 ?_ ?_ _); (· first | omega | (simp; done) | (simp; omega))) | (with_reducible refine Below.drew ?_) | (with_reducible refine below_drewN' ?_ _) | ((with_reducible refine Below.setCell1 ?_ ?_ _); (· first | omega | (simp; done) | (simp; omega))) | ((with_reducible refine Below.after (by assumption) ?_ ?_); (· first | omega | (simp; done) | (simp; omega)))))⟩
    | exact bodyPost_ret (v := .agg #[.int .u64 (kcode kl), .int .u64 (kcode kh)]) (by simp [results, Try.results16, go_sem, *]) rfl ⟨ofEnd_s (by assumption) (by assumption) (by assumption) (by assumption), by (repeat (first | with_reducible exact Below.refl _ _ | ((with_reducible refine Below.alloc1 ?_ ?_ _); (· first | omega | (simp; done) | (simp; omega))) | (with_reducible refine Below.drew ?_) | (with_reducible refine below_drewN' ?_ _) | ((with_reducible refine Below.setCell1 ?_ ?_ _); (· first | omega | (simp; done) | (simp; omega))) | ((with_reducible refine Below.after (by assumption) ?_ ?_); (· first | omega | (simp; done) | (simp; omega)))))⟩

theorem refOf_fy (lo hi : Nat) (kl kh : Key) (w : World) (hl : lo < 2 ^ 64) (hh : hi < 2 ^ 64) (hn : (isNaN lo || isNaN hi) = false) (h1 : codeOf lo = kcode kl) (h2 : codeOf hi = kcode kh) (hB : isCode (kcode kh - 1) = true) :
    Calls Try.prog 16 #[.agg #[.float .f64 lo, .float .f64 hi, .bool false, .bool true]] w (Ret (ofEnd (kcode kl) (kcode kh - 1)) w) := by
  have hn1 : isNaN lo = false := by cases h : isNaN lo <;> simp_all
  have hn2 : isNaN hi = false := by cases h : isNaN hi <;> simp_all
  have h0 : (kcode kh - 1 == 0) = false := by have := kcode_lo kh; rw [beq_eq_false_iff_ne]; omega
  have BD := hid (show _ ∧ _ ∧ _ ∧ _ from ⟨kcode_lo kl, kcode_hi kl, kcode_lo kh, kcode_hi kh⟩)
  clear hn
  have w3 := wrap_m1 kh
  go_enter Try.func16, Try.ntmps16
  go_wp2_with (first | (go_at_call 23; (with_reducible refine (refNan_any _ (by assumption) _).mono ?_); rintro e w' ⟨rfl, rfl⟩))
  go_quiet ((go_at_call 53; exact Calls.quiet_of_same ((refCode_any _ (by assumption) _).mono fun _ _ ⟨hq1, hq2⟩ => ⟨hq1, hq2.symm⟩)))
  go_wp2_with (first | (go_at_call 54; (with_reducible refine (refIsCode_any _ (by have := BD.out; omega) (by have := BD.out; omega) _).mono ?_); rintro e w' ⟨rfl, rfl⟩) | (go_at_call 52; (with_reducible refine (refNone_any _).mono ?_); rintro e w1 ⟨rfl, hb1⟩; obtain ⟨hc1, hf1⟩ := bcell hb1; (try simp only [World.heap_drewN, World.cell?_drewN, World.frozen?_drewN] at hc1 hf1); have hz1 := hb1.size; (try simp at hz1); (try have hy1_0 : w.heap.size < w1.heap.size := by omega); (try have hy1_1 : w.heap.size + 1 < w1.heap.size := by omega); (try have hy1_2 : w.heap.size + 2 < w1.heap.size := by omega); (try have hy1_3 : w.heap.size + 3 < w1.heap.size := by omega); (try have hx1_0 : w.heap.size ≤ w1.heap.size := by omega); (try have hx1_1 : w.heap.size + 1 ≤ w1.heap.size := by omega); (try have hx1_2 : w.heap.size + 2 ≤ w1.heap.size := by omega)))
  all_goals first
    | exact bodyPost_ret (v := rgv none) (by simp [results, Try.results16, go_sem, *]) rfl ⟨(by first | exact ofEnd_n1 (by assumption) | exact ofEnd_n2 (by assumption) | exact ofEnd_n3 (by assumption)), by (repeat (first | with_reducible exact Below.refl _ _ | ((with_reducible refine Below.alloc1 ?_ ?_ _); (· first | omega | (simp; done) | (simp; omega))) | (with_reducible refine Below.drew ?_) | (with_reducible refine below_drewN' ?_ _) | ((with_reducible refine Below.setCell1 ?_ ?_ _); (· first | omega | (simp; done) | (simp; omega))) | ((with_reducible refine Below.after (by assumption) ?_ ?_); (· first | omega | (simp; done) | (simp; omega)))))⟩
    | exact bodyPost_ret (v := .agg #[.int .u64 (kcode kl), .int .u64 (kcode kh - 1)]) (by simp [results, Try.results16, go_sem, *]) rfl ⟨ofEnd_s (by assumption) (by assumption) (by assumption) (by assumption), by (repeat (first | with_reducible exact Below.refl _ _ | ((with_reducible refine Below.alloc1 ?_ ?_ _); (· first | omega | (simp; done) | (simp; omega))) | (with_reducible refine Below.drew ?_) | (with_reducible refine below_drewN' ?_ _) | ((with_reducible refine Below.setCell1 ?_ ?_ _); (· first | omega | (simp; done) | (simp; omega))) | ((with_reducible refine Below.after (by assumption) ?_ ?_); (· first | omega | (simp; done) | (simp; omega)))))⟩

theorem refOf_fn (lo hi : Nat) (kl kh : Key) (w : World) (hl : lo < 2 ^ 64) (hh : hi < 2 ^ 64) (hn : (isNaN lo || isNaN hi) = false) (h1 : codeOf lo = kcode kl) (h2 : codeOf hi = kcode kh) (hB : isCode (kcode kh - 1) = false) :
    Calls Try.prog 16 #[.agg #[.float .f64 lo, .float .f64 hi, .bool false, .bool true]] w (Ret (ofEnd (kcode kl) (kcode kh - 1 - 1)) w) := by
  have hn1 : isNaN lo = false := by cases h : isNaN lo <;> simp_all
  have hn2 : isNaN hi = false := by cases h : isNaN hi <;> simp_all
  have h0 : (kcode kh - 1 - 1 == 0) = false := by have := kcode_lo kh; rw [beq_eq_false_iff_ne]; omega
  have BD := hid (show _ ∧ _ ∧ _ ∧ _ from ⟨kcode_lo kl, kcode_hi kl, kcode_lo kh, kcode_hi kh⟩)
  clear hn
  have w3 := wrap_m1 kh
  have w4 := wrap_m2 kh
  go_enter Try.func16, Try.ntmps16
  go_wp2_with (first | (go_at_call 23; (with_reducible refine (refNan_any _ (by assumption) _).mono ?_); rintro e w' ⟨rfl, rfl⟩))
  go_quiet ((go_at_call 53; exact Calls.quiet_of_same ((refCode_any _ (by assumption) _).mono fun _ _ ⟨hq1, hq2⟩ => ⟨hq1, hq2.symm⟩)))
  go_wp2_with (first | (go_at_call 54; (with_reducible refine (refIsCode_any _ (by have := BD.out; omega) (by have := BD.out; omega) _).mono ?_); rintro e w' ⟨rfl, rfl⟩) | (go_at_call 52; (with_reducible refine (refNone_any _).mono ?_); rintro e w1 ⟨rfl, hb1⟩; obtain ⟨hc1, hf1⟩ := bcell hb1; (try simp only [World.heap_drewN, World.cell?_drewN, World.frozen?_drewN] at hc1 hf1); have hz1 := hb1.size; (try simp at hz1); (try have hy1_0 : w.heap.size < w1.heap.size := by omega); (try have hy1_1 : w.heap.size + 1 < w1.heap.size := by omega); (try have hy1_2 : w.heap.size + 2 < w1.heap.size := by omega); (try have hy1_3 : w.heap.size + 3 < w1.heap.size := by omega); (try have hx1_0 : w.heap.size ≤ w1.heap.size := by omega); (try have hx1_1 : w.heap.size + 1 ≤ w1.heap.size := by omega); (try have hx1_2 : w.heap.size + 2 ≤ w1.heap.size := by omega)))
  all_goals first
    | exact bodyPost_ret (v := rgv none) (by simp [results, Try.results16, go_sem, *]) rfl ⟨(by first | exact ofEnd_n1 (by assumption) | exact ofEnd_n2 (by assumption) | exact ofEnd_n3 (by assumption)), by (repeat (first | with_reducible exact Below.refl _ _ | ((with_reducible refine Below.alloc1 ?_ ?_ _); (· first | omega | (simp; done) | (simp; omega))) | (with_reducible refine Below.drew ?_) | (with_reducible refine below_drewN' ?_ _) | ((with_reducible refine Below.setCell1 ?_ ?_ _); (· first | omega | (simp; done) | (simp; omega))) | ((with_reducible refine Below.after (by assumption) ?_ ?_); (· first | omega | (simp; done) | (simp; omega)))))⟩
    | exact bodyPost_ret (v := .agg #[.int .u64 (kcode kl), .int .u64 (kcode kh - 1 - 1)]) (by simp [results, Try.results16, go_sem, *]) rfl ⟨ofEnd_s (by assumption) (by assumption) (by assumption) (by assumption), by (repeat (first | with_reducible exact Below.refl _ _ | ((with_reducible refine Below.alloc1 ?_ ?_ _); (· first | omega | (simp; done) | (simp; omega))) | (with_reducible refine Below.drew ?_) | (with_reducible refine below_drewN' ?_ _) | ((with_reducible refine Below.setCell1 ?_ ?_ _); (· first | omega | (simp; done) | (simp; omega))) | ((with_reducible refine Below.after (by assumption) ?_ ?_); (· first | omega | (simp; done) | (simp; omega)))))⟩

theorem refOf_yf (lo hi : Nat) (kl kh : Key) (w : World) (hl : lo < 2 ^ 64) (hh : hi < 2 ^ 64) (hn : (isNaN lo || isNaN hi) = false) (h1 : codeOf lo = kcode kl) (h2 : codeOf hi = kcode kh) (hA : isCode (kcode kl + 1) = true) :
    Calls Try.prog 16 #[.agg #[.float .f64 lo, .float .f64 hi, .bool true, .bool false]] w (Ret (ofEnd (kcode kl + 1) (kcode kh)) w) := by
  have hn1 : isNaN lo = false := by cases h : isNaN lo <;> simp_all
  have hn2 : isNaN hi = false := by cases h : isNaN hi <;> simp_all
  have h0 : (kcode kh == 0) = false := by have := kcode_lo kh; rw [beq_eq_false_iff_ne]; omega
  have BD := hid (show _ ∧ _ ∧ _ ∧ _ from ⟨kcode_lo kl, kcode_hi kl, kcode_lo kh, kcode_hi kh⟩)
  clear hn
  have w1 := wrap_k1 kl
  go_enter Try.func16, Try.ntmps16
  go_wp2_with (first | (go_at_call 23; (with_reducible refine (refNan_any _ (by assumption) _).mono ?_); rintro e w' ⟨rfl, rfl⟩))
  go_quiet ((go_at_call 53; exact Calls.quiet_of_same ((refCode_any _ (by assumption) _).mono fun _ _ ⟨hq1, hq2⟩ => ⟨hq1, hq2.symm⟩)))
  go_wp2_with (first | (go_at_call 54; (with_reducible refine (refIsCode_any _ (by have := BD.out; omega) (by have := BD.out; omega) _).mono ?_); rintro e w' ⟨rfl, rfl⟩) | (go_at_call 52; (with_reducible refine (refNone_any _).mono ?_); rintro e w1 ⟨rfl, hb1⟩; obtain ⟨hc1, hf1⟩ := bcell hb1; (try simp only [World.heap_drewN, World.cell?_drewN, World.frozen?_drewN] at hc1 hf1); have hz1 := hb1.size; (try simp at hz1); (try have hy1_0 : w.heap.size < w1.heap.size := by omega); (try have hy1_1 : w.heap.size + 1 < w1.heap.size := by omega); (try have hy1_2 : w.heap.size + 2 < w1.heap.size := by omega); (try have hy1_3 : w.heap.size + 3 < w1.heap.size := by omega); (try have hx1_0 : w.heap.size ≤ w1.heap.size := by omega); (try have hx1_1 : w.heap.size + 1 ≤ w1.heap.size := by omega); (try have hx1_2 : w.heap.size + 2 ≤ w1.heap.size := by omega)))
  all_goals first
    | exact bodyPost_ret (v := rgv none) (by simp [results, Try.results16, go_sem, *]) rfl ⟨(by first | exact ofEnd_n1 (by assumption) | exact ofEnd_n2 (by assumption) | exact ofEnd_n3 (by assumption)), by (repeat (first | with_reducible exact Below.refl _ _ | ((with_reducible refine Below.alloc1 ?_ ?_ _); (· first | omega | (simp; done) | (simp; omega))) | (with_reducible refine Below.drew ?_) | (with_reducible refine below_drewN' ?_ _) | ((with_reducible refine Below.setCell1 ?_ ?_ _); (· first | omega | (simp; done) | (simp; omega))) | ((with_reducible refine Below.after (by assumption) ?_ ?_); (· first | omega | (simp; done) | (simp; omega)))))⟩
    | exact bodyPost_ret (v := .agg #[.int .u64 (kcode kl + 1), .int .u64 (kcode kh)]) (by simp [results, Try.results16, go_sem, *]) rfl ⟨ofEnd_s (by assumption) (by assumption) (by assumption) (by assumption), by (repeat (first | with_reducible exact Below.refl _ _ | ((with_reducible refine Below.alloc1 ?_ ?_ _); (· first | omega | (simp; done) | (simp; omega))) | (with_reducible refine Below.drew ?_) | (with_reducible refine below_drewN' ?_ _) | ((with_reducible refine Below.setCell1 ?_ ?_ _); (· first | omega | (simp; done) | (simp; omega))) | ((with_reducible refine Below.after (by assumption) ?_ ?_); (· first | omega | (simp; done) | (simp; omega)))))⟩

theorem refOf_yy (lo hi : Nat) (kl kh : Key) (w : World) (hl : lo < 2 ^ 64) (hh : hi < 2 ^ 64) (hn : (isNaN lo || isNaN hi) = false) (h1 : codeOf lo = kcode kl) (h2 : codeOf hi = kcode kh) (hA : isCode (kcode kl + 1) = true) (hB : isCode (kcode kh - 1) = true) :
    Calls Try.prog 16 #[.agg #[.float .f64 lo, .float .f64 hi, .bool true, .bool true]] w (Ret (ofEnd (kcode kl + 1) (kcode kh - 1)) w) := by
  have hn1 : isNaN lo = false := by cases h : isNaN lo <;> simp_all
  have hn2 : isNaN hi = false := by cases h : isNaN hi <;> simp_all
  have h0 : (kcode kh - 1 == 0) = false := by have := kcode_lo kh; rw [beq_eq_false_iff_ne]; omega
  have BD := hid (show _ ∧ _ ∧ _ ∧ _ from ⟨kcode_lo kl, kcode_hi kl, kcode_lo kh, kcode_hi kh⟩)
  clear hn
  have w1 := wrap_k1 kl
  have w3 := wrap_m1 kh
  go_enter Try.func16, Try.ntmps16
  go_wp2_with (first | (go_at_call 23; (with_reducible refine (refNan_any _ (by assumption) _).mono ?_); rintro e w' ⟨rfl, rfl⟩))
  go_quiet ((go_at_call 53; exact Calls.quiet_of_same ((refCode_any _ (by assumption) _).mono fun _ _ ⟨hq1, hq2⟩ => ⟨hq1, hq2.symm⟩)))
  go_wp2_with (first | (go_at_call 54; (with_reducible refine (refIsCode_any _ (by have := BD.out; omega) (by have := BD.out; omega) _).mono ?_); rintro e w' ⟨rfl, rfl⟩) | (go_at_call 52; (with_reducible refine (refNone_any _).mono ?_); rintro e w1 ⟨rfl, hb1⟩; obtain ⟨hc1, hf1⟩ := bcell hb1; (try simp only [World.heap_drewN, World.cell?_drewN, World.frozen?_drewN] at hc1 hf1); have hz1 := hb1.size; (try simp at hz1); (try have hy1_0 : w.heap.size < w1.heap.size := by omega); (try have hy1_1 : w.heap.size + 1 < w1.heap.size := by omega); (try have hy1_2 : w.heap.size + 2 < w1.heap.size := by omega); (try have hy1_3 : w.heap.size + 3 < w1.heap.size := by omega); (try have hx1_0 : w.heap.size ≤ w1.heap.size := by omega); (try have hx1_1 : w.heap.size + 1 ≤ w1.heap.size := by omega); (try have hx1_2 : w.heap.size + 2 ≤ w1.heap.size := by omega)))
  all_goals first
    | exact bodyPost_ret (v := rgv none) (by simp [results, Try.results16, go_sem, *]) rfl ⟨(by first | exact ofEnd_n1 (by assumption) | exact ofEnd_n2 (by assumption) | exact ofEnd_n3 (by assumption)), by (repeat (first | with_reducible exact Below.refl _ _ | ((with_reducible refine Below.alloc1 ?_ ?_ _); (· first | omega | (simp; done) | (simp; omega))) | (with_reducible refine Below.drew ?_) | (with_reducible refine below_drewN' ?_ _) | ((with_reducible refine Below.setCell1 ?_ ?_ _); (· first | omega | (simp; done) | (simp; omega))) | ((with_reducible refine Below.after (by assumption) ?_ ?_); (· first | omega | (simp; done) | (simp; omega)))))⟩
    | exact bodyPost_ret (v := .agg #[.int .u64 (kcode kl + 1), .int .u64 (kcode kh - 1)]) (by simp [results, Try.results16, go_sem, *]) rfl ⟨ofEnd_s (by assumption) (by assumption) (by assumption) (by assumption), by (repeat (first | with_reducible exact Below.refl _ _ | ((with_reducible refine Below.alloc1 ?_ ?_ _); (· first | omega | (simp; done) | (simp; omega))) | (with_reducible refine Below.drew ?_) | (with_reducible refine below_drewN' ?_ _) | ((with_reducible refine Below.setCell1 ?_ ?_ _); (· first | omega | (simp; done) | (simp; omega))) | ((with_reducible refine Below.after (by assumption) ?_ ?_); (· first | omega | (simp; done) | (simp; omega)))))⟩

theorem refOf_yn (lo hi : Nat) (kl kh : Key) (w : World) (hl : lo < 2 ^ 64) (hh : hi < 2 ^ 64) (hn : (isNaN lo || isNaN hi) = false) (h1 : codeOf lo = kcode kl) (h2 : codeOf hi = kcode kh) (hA : isCode (kcode kl + 1) = true) (hB : isCode (kcode kh - 1) = false) :
    Calls Try.prog 16 #[.agg #[.float .f64 lo, .float .f64 hi, .bool true, .bool true]] w (Ret (ofEnd (kcode kl + 1) (kcode kh - 1 - 1)) w) := by
  have hn1 : isNaN lo = false := by cases h : isNaN lo <;> simp_all
  have hn2 : isNaN hi = false := by cases h : isNaN hi <;> simp_all
  have h0 : (kcode kh - 1 - 1 == 0) = false := by have := kcode_lo kh; rw [beq_eq_false_iff_ne]; omega
  have BD := hid (show _ ∧ _ ∧ _ ∧ _ from ⟨kcode_lo kl, kcode_hi kl, kcode_lo kh, kcode_hi kh⟩)
  clear hn
  have w1 := wrap_k1 kl
  have w3 := wrap_m1 kh
  have w4 := wrap_m2 kh
  go_enter Try.func16, Try.ntmps16
  go_wp2_with (first | (go_at_call 23; (with_reducible refine (refNan_any _ (by assumption) _).mono ?_); rintro e w' ⟨rfl, rfl⟩))
  go_quiet ((go_at_call 53; exact Calls.quiet_of_same ((refCode_any _ (by assumption) _).mono fun _ _ ⟨hq1, hq2⟩ => ⟨hq1, hq2.symm⟩)))
  go_wp2_with (first | (go_at_call 54; (with_reducible refine (refIsCode_any _ (by have := BD.out; omega) (by have := BD.out; omega) _).mono ?_); rintro e w' ⟨rfl, rfl⟩) | (go_at_call 52; (with_reducible refine (refNone_any _).mono ?_); rintro e w1 ⟨rfl, hb1⟩; obtain ⟨hc1, hf1⟩ := bcell hb1; (try simp only [World.heap_drewN, World.cell?_drewN, World.frozen?_drewN] at hc1 hf1); have hz1 := hb1.size; (try simp at hz1); (try have hy1_0 : w.heap.size < w1.heap.size := by omega); (try have hy1_1 : w.heap.size + 1 < w1.heap.size := by omega); (try have hy1_2 : w.heap.size + 2 < w1.heap.size := by omega); (try have hy1_3 : w.heap.size + 3 < w1.heap.size := by omega); (try have hx1_0 : w.heap.size ≤ w1.heap.size := by omega); (try have hx1_1 : w.heap.size + 1 ≤ w1.heap.size := by omega); (try have hx1_2 : w.heap.size + 2 ≤ w1.heap.size := by omega)))
  all_goals first
    | exact bodyPost_ret (v := rgv none) (by simp [results, Try.results16, go_sem, *]) rfl ⟨(by first | exact ofEnd_n1 (by assumption) | exact ofEnd_n2 (by assumption) | exact ofEnd_n3 (by assumption)), by (repeat (first | with_reducible exact Below.refl _ _ | ((with_reducible refine Below.alloc1 ?_ ?_ _); (· first | omega | (simp; done) | (simp; omega))) | (with_reducible refine Below.drew ?_) | (with_reducible refine below_drewN' ?_ _) | ((with_reducible refine Below.setCell1 ?_ ?_ _); (· first | omega | (simp; done) | (simp; omega))) | ((with_reducible refine Below.after (by assumption) ?_ ?_); (· first | omega | (simp; done) | (simp; omega)))))⟩
    | exact bodyPost_ret (v := .agg #[.int .u64 (kcode kl + 1), .int .u64 (kcode kh - 1 - 1)]) (by simp [results, Try.results16, go_sem, *]) rfl ⟨ofEnd_s (by assumption) (by assumption) (by assumption) (by assumption), by (repeat (first | with_reducible exact Below.refl _ _ | ((with_reducible refine Below.alloc1 ?_ ?_ _); (· first | omega | (simp; done) | (simp; omega))) | (with_reducible refine Below.drew ?_) | (with_reducible refine below_drewN' ?_ _) | ((with_reducible refine Below.setCell1 ?_ ?_ _); (· first | omega | (simp; done) | (simp; omega))) | ((with_reducible refine Below.after (by assumption) ?_ ?_); (· first | omega | (simp; done) | (simp; omega)))))⟩

theorem refOf_nf (lo hi : Nat) (kl kh : Key) (w : World) (hl : lo < 2 ^ 64) (hh : hi < 2 ^ 64) (hn : (isNaN lo || isNaN hi) = false) (h1 : codeOf lo = kcode kl) (h2 : codeOf hi = kcode kh) (hA : isCode (kcode kl + 1) = false) :
    Calls Try.prog 16 #[.agg #[.float .f64 lo, .float .f64 hi, .bool true, .bool false]] w (Ret (ofEnd (kcode kl + 1 + 1) (kcode kh)) w) := by
  have hn1 : isNaN lo = false := by cases h : isNaN lo <;> simp_all
  have hn2 : isNaN hi = false := by cases h : isNaN hi <;> simp_all
  have h0 : (kcode kh == 0) = false := by have := kcode_lo kh; rw [beq_eq_false_iff_ne]; omega
  have BD := hid (show _ ∧ _ ∧ _ ∧ _ from ⟨kcode_lo kl, kcode_hi kl, kcode_lo kh, kcode_hi kh⟩)
  clear hn
  have w1 := wrap_k1 kl
  have w2 := wrap_k2 kl
  go_enter Try.func16, Try.ntmps16
  go_wp2_with (first | (go_at_call 23; (with_reducible refine (refNan_any _ (by assumption) _).mono ?_); rintro e w' ⟨rfl, rfl⟩))
  go_quiet ((go_at_call 53; exact Calls.quiet_of_same ((refCode_any _ (by assumption) _).mono fun _ _ ⟨hq1, hq2⟩ => ⟨hq1, hq2.symm⟩)))
  go_wp2_with (first | (go_at_call 54; (with_reducible refine (refIsCode_any _ (by have := BD.out; omega) (by have := BD.out; omega) _).mono ?_); rintro e w' ⟨rfl, rfl⟩) | (go_at_call 52; (with_reducible refine (refNone_any _).mono ?_); rintro e w1 ⟨rfl, hb1⟩; obtain ⟨hc1, hf1⟩ := bcell hb1; (try simp only [World.heap_drewN, World.cell?_drewN, World.frozen?_drewN] at hc1 hf1); have hz1 := hb1.size; (try simp at hz1); (try have hy1_0 : w.heap.size < w1.heap.size := by omega); (try have hy1_1 : w.heap.size + 1 < w1.heap.size := by omega); (try have hy1_2 : w.heap.size + 2 < w1.heap.size := by omega); (try have hy1_3 : w.heap.size + 3 < w1.heap.size := by omega); (try have hx1_0 : w.heap.size ≤ w1.heap.size := by omega); (try have hx1_1 : w.heap.size + 1 ≤ w1.heap.size := by omega); (try have hx1_2 : w.heap.size + 2 ≤ w1.heap.size := by omega)))
  all_goals first
    | exact bodyPost_ret (v := rgv none) (by simp [results, Try.results16, go_sem, *]) rfl ⟨(by first | exact ofEnd_n1 (by assumption) | exact ofEnd_n2 (by assumption) | exact ofEnd_n3 (by assumption)), by (repeat (first | with_reducible exact Below.refl _ _ | ((with_reducible refine Below.alloc1 ?_ ?_ _); (· first | omega | (simp; done) | (simp; omega))) | (with_reducible refine Below.drew ?_) | (with_reducible refine below_drewN' ?_ _) | ((with_reducible refine Below.setCell1 ?_ ?_ _); (· first | omega | (simp; done) | (simp; omega))) | ((with_reducible refine Below.after (by assumption) ?_ ?_); (· first | omega | (simp; done) | (simp; omega)))))⟩
    | exact bodyPost_ret (v := .agg #[.int .u64 (kcode kl + 1 + 1), .int .u64 (kcode kh)]) (by simp [results, Try.results16, go_sem, *]) rfl ⟨ofEnd_s (by assumption) (by assumption) (by assumption) (by assumption), by (repeat (first | with_reducible exact Below.refl _ _ | ((with_reducible refine Below.alloc1 ?_ ?_ _); (· first | omega | (simp; done) | (simp; omega))) | (with_reducible refine Below.drew ?_) | (with_reducible refine below_drewN' ?_ _) | ((with_reducible refine Below.setCell1 ?_ ?_ _); (· first | omega | (simp; done) | (simp; omega))) | ((with_reducible refine Below.after (by assumption) ?_ ?_); (· first | omega | (simp; done) | (simp; omega)))))⟩

theorem refOf_ny (lo hi : Nat) (kl kh : Key) (w : World) (hl : lo < 2 ^ 64) (hh : hi < 2 ^ 64) (hn : (isNaN lo || isNaN hi) = false) (h1 : codeOf lo = kcode kl) (h2 : codeOf hi = kcode kh) (hA : isCode (kcode kl + 1) = false) (hB : isCode (kcode kh - 1) = true) :
    Calls Try.prog 16 #[.agg #[.float .f64 lo, .float .f64 hi, .bool true, .bool true]] w (Ret (ofEnd (kcode kl + 1 + 1) (kcode kh - 1)) w) := by
  have hn1 : isNaN lo = false := by cases h : isNaN lo <;> simp_all
  have hn2 : isNaN hi = false := by cases h : isNaN hi <;> simp_all
  have h0 : (kcode kh - 1 == 0) = false := by have := kcode_lo kh; rw [beq_eq_false_iff_ne]; omega
  have BD := hid (show _ ∧ _ ∧ _ ∧ _ from ⟨kcode_lo kl, kcode_hi kl, kcode_lo kh, kcode_hi kh⟩)
  clear hn
  have w1 := wrap_k1 kl
  have w2 := wrap_k2 kl
  have w3 := wrap_m1 kh
  go_enter Try.func16, Try.ntmps16
  go_wp2_with (first | (go_at_call 23; (with_reducible refine (refNan_any _ (by assumption) _).mono ?_); rintro e w' ⟨rfl, rfl⟩))
  go_quiet ((go_at_call 53; exact Calls.quiet_of_same ((refCode_any _ (by assumption) _).mono fun _ _ ⟨hq1, hq2⟩ => ⟨hq1, hq2.symm⟩)))
  go_wp2_with (first | (go_at_call 54; (with_reducible refine (refIsCode_any _ (by have := BD.out; omega) (by have := BD.out; omega) _).mono ?_); rintro e w' ⟨rfl, rfl⟩) | (go_at_call 52; (with_reducible refine (refNone_any _).mono ?_); rintro e w1 ⟨rfl, hb1⟩; obtain ⟨hc1, hf1⟩ := bcell hb1; (try simp only [World.heap_drewN, World.cell?_drewN, World.frozen?_drewN] at hc1 hf1); have hz1 := hb1.size; (try simp at hz1); (try have hy1_0 : w.heap.size < w1.heap.size := by omega); (try have hy1_1 : w.heap.size + 1 < w1.heap.size := by omega); (try have hy1_2 : w.heap.size + 2 < w1.heap.size := by omega); (try have hy1_3 : w.heap.size + 3 < w1.heap.size := by omega); (try have hx1_0 : w.heap.size ≤ w1.heap.size := by omega); (try have hx1_1 : w.heap.size + 1 ≤ w1.heap.size := by omega); (try have hx1_2 : w.heap.size + 2 ≤ w1.heap.size := by omega)))
  all_goals first
    | exact bodyPost_ret (v := rgv none) (by simp [results, Try.results16, go_sem, *]) rfl ⟨(by first | exact ofEnd_n1 (by assumption) | exact ofEnd_n2 (by assumption) | exact ofEnd_n3 (by assumption)), by (repeat (first | with_reducible exact Below.refl _ _ | ((with_reducible refine Below.alloc1 ?_ ?_ _); (· first | omega | (simp; done) | (simp; omega))) | (with_reducible refine Below.drew ?_) | (with_reducible refine below_drewN' ?_ _) | ((with_reducible refine Below.setCell1 ?_ ?_ _); (· first | omega | (simp; done) | (simp; omega))) | ((with_reducible refine Below.after (by assumption) ?_ ?_); (· first | omega | (simp; done) | (simp; omega)))))⟩
    | exact bodyPost_ret (v := .agg #[.int .u64 (kcode kl + 1 + 1), .int .u64 (kcode kh - 1)]) (by simp [results, Try.results16, go_sem, *]) rfl ⟨ofEnd_s (by assumption) (by assumption) (by assumption) (by assumption), by (repeat (first | with_reducible exact Below.refl _ _ | ((with_reducible refine Below.alloc1 ?_ ?_ _); (· first | omega | (simp; done) | (simp; omega))) | (with_reducible refine Below.drew ?_) | (with_reducible refine below_drewN' ?_ _) | ((with_reducible refine Below.setCell1 ?_ ?_ _); (· first | omega | (simp; done) | (simp; omega))) | ((with_reducible refine Below.after (by assumption) ?_ ?_); (· first | omega | (simp; done) | (simp; omega)))))⟩

theorem refOf_nn (lo hi : Nat) (kl kh : Key) (w : World) (hl : lo < 2 ^ 64) (hh : hi < 2 ^ 64) (hn : (isNaN lo || isNaN hi) = false) (h1 : codeOf lo = kcode kl) (h2 : codeOf hi = kcode kh) (hA : isCode (kcode kl + 1) = false) (hB : isCode (kcode kh - 1) = false) :
    Calls Try.prog 16 #[.agg #[.float .f64 lo, .float .f64 hi, .bool true, .bool true]] w (Ret (ofEnd (kcode kl + 1 + 1) (kcode kh - 1 - 1)) w) := by
  have hn1 : isNaN lo = false := by cases h : isNaN lo <;> simp_all
  have hn2 : isNaN hi = false := by cases h : isNaN hi <;> simp_all
  have h0 : (kcode kh - 1 - 1 == 0) = false := by have := kcode_lo kh; rw [beq_eq_false_iff_ne]; omega
  have BD := hid (show _ ∧ _ ∧ _ ∧ _ from ⟨kcode_lo kl, kcode_hi kl, kcode_lo kh, kcode_hi kh⟩)
  clear hn
  have w1 := wrap_k1 kl
  have w2 := wrap_k2 kl
  have w3 := wrap_m1 kh
  have w4 := wrap_m2 kh
  go_enter Try.func16, Try.ntmps16
  go_wp2_with (first | (go_at_call 23; (with_reducible refine (refNan_any _ (by assumption) _).mono ?_); rintro e w' ⟨rfl, rfl⟩))
  go_quiet ((go_at_call 53; exact Calls.quiet_of_same ((refCode_any _ (by assumption) _).mono fun _ _ ⟨hq1, hq2⟩ => ⟨hq1, hq2.symm⟩)))
  go_wp2_with (first | (go_at_call 54; (with_reducible refine (refIsCode_any _ (by have := BD.out; omega) (by have := BD.out; omega) _).mono ?_); rintro e w' ⟨rfl, rfl⟩) | (go_at_call 52; (with_reducible refine (refNone_any _).mono ?_); rintro e w1 ⟨rfl, hb1⟩; obtain ⟨hc1, hf1⟩ := bcell hb1; (try simp only [World.heap_drewN, World.cell?_drewN, World.frozen?_drewN] at hc1 hf1); have hz1 := hb1.size; (try simp at hz1); (try have hy1_0 : w.heap.size < w1.heap.size := by omega); (try have hy1_1 : w.heap.size + 1 < w1.heap.size := by omega); (try have hy1_2 : w.heap.size + 2 < w1.heap.size := by omega); (try have hy1_3 : w.heap.size + 3 < w1.heap.size := by omega); (try have hx1_0 : w.heap.size ≤ w1.heap.size := by omega); (try have hx1_1 : w.heap.size + 1 ≤ w1.heap.size := by omega); (try have hx1_2 : w.heap.size + 2 ≤ w1.heap.size := by omega)))
  all_goals first
    | exact bodyPost_ret (v := rgv none) (by simp [results, Try.results16, go_sem, *]) rfl ⟨(by first | exact ofEnd_n1 (by assumption) | exact ofEnd_n2 (by assumption) | exact ofEnd_n3 (by assumption)), by (repeat (first | with_reducible exact Below.refl _ _ | ((with_reducible refine Below.alloc1 ?_ ?_ _); (· first | omega | (simp; done) | (simp; omega))) | (with_reducible refine Below.drew ?_) | (with_reducible refine below_drewN' ?_ _) | ((with_reducible refine Below.setCell1 ?_ ?_ _); (· first | omega | (simp; done) | (simp; omega))) | ((with_reducible refine Below.after (by assumption) ?_ ?_); (· first | omega | (simp; done) | (simp; omega)))))⟩
    | exact bodyPost_ret (v := .agg #[.int .u64 (kcode kl + 1 + 1), .int .u64 (kcode kh - 1 - 1)]) (by simp [results, Try.results16, go_sem, *]) rfl ⟨ofEnd_s (by assumption) (by assumption) (by assumption) (by assumption), by (repeat (first | with_reducible exact Below.refl _ _ | ((with_reducible refine Below.alloc1 ?_ ?_ _); (· first | omega | (simp; done) | (simp; omega))) | (with_reducible refine Below.drew ?_) | (with_reducible refine below_drewN' ?_ _) | ((with_reducible refine Below.setCell1 ?_ ?_ _); (· first | omega | (simp; done) | (simp; omega))) | ((with_reducible refine Below.after (by assumption) ?_ ?_); (· first | omega | (simp; done) | (simp; omega)))))⟩

end Go.Proofs.Ytibimhjbhincnaa
