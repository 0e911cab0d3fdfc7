/- Several texts as one: B3 B4 R6 R7 R8 B5 B6 G1. -/
import Derived.Test.YtekmadgacepdfaaGreatQ0
import Derived.Test.YtekmadgacepdfaaGreatB0
import Derived.Test.YtekmadgacepdfaaGreatNote
import Derived.Test.YtekmadgacepdfaaGreatMR
import Derived.Test.YtekmadgacepdfaaGreatB2
namespace Go.Proofs.YtekmadgacepdfaaGreat
set_option linter.unusedVariables false
set_option linter.unusedSimpArgs false
open Go.RowKit Fl

set_option maxRecDepth 100000 in
theorem join_nn (lo hi lo' hi' : Nat) (a b a' b' : Bool) (w : World) (hl : lo < 2 ^ 64) (hh : hi < 2 ^ 64) (hl' : lo' < 2 ^ 64) (hh' : hi' < 2 ^ 64) (hr : Hid (canonS lo hi a b = none)) (hr' : Hid (canonS lo' hi' a' b' = none)) :
  Calls Tryz.prog 119 #[.agg #[.float .f64 lo, .float .f64 hi, .bool a, .bool b], .agg #[.float .f64 lo', .float .f64 hi', .bool a', .bool b']] w (Ret (.tuple #[.agg #[.float .f64 0, .float .f64 0, .bool true, .bool true], .bool true]) w) := by
 go_enter Tryz.func119, Tryz.ntmps119
 go_wp2_with fail
 (refine wp_region_ext_tail 4 (by kernel_rfl) (by kernel_rfl) (by kernel_rfl) ?_; simp only [List.take_succ_cons, List.take_zero, List.drop_succ_cons, List.drop_zero]; (repeat (go_big_quiet_step (first | (go_at_call 116; with_reducible exact Calls.ext_of (canon_isN lo hi a b _ hl hh hr)) | (go_at_call 116; with_reducible exact Calls.ext_of (canon_isN lo' hi' a' b' _ hl' hh' hr'))))); refine wpQuiet_nil ?_; rintro w1 ⟨x1, hx1⟩; have hb1 := x1.b; rw [← hx1] at hb1; clear hx1 x1; obtain ⟨hc1, hf1⟩ := bcell hb1; (try simp only [qD, qE, qF] at hc1 hf1); have hz1 := hb1.size; (try simp at hz1); (try have hy1_0 : w.heap.size < w1.heap.size := by omega); (try have hy1_1 : w.heap.size + 1 < w1.heap.size := by omega); (try have hy1_2 : w.heap.size + 2 < w1.heap.size := by omega); (try have hy1_3 : w.heap.size + 3 < w1.heap.size := by omega); (try have hx1_0 : w.heap.size ≤ w1.heap.size := by omega); (try have hx1_1 : w.heap.size + 1 ≤ w1.heap.size := by omega); (try have hx1_2 : w.heap.size + 2 ≤ w1.heap.size := by omega))
 (have cc1_0_0 := hc1 (w.heap.size) 0 (by first | assumption | (simp; done) | (simp; omega)); have cf1_0_0 := hf1 (w.heap.size) 0 (by first | assumption | (simp; done) | (simp; omega)); have cc1_0_1 := hc1 (w.heap.size) 1 (by first | assumption | (simp; done) | (simp; omega)); have cf1_0_1 := hf1 (w.heap.size) 1 (by first | assumption | (simp; done) | (simp; omega)); have cc1_0_2 := hc1 (w.heap.size) 2 (by first | assumption | (simp; done) | (simp; omega)); have cf1_0_2 := hf1 (w.heap.size) 2 (by first | assumption | (simp; done) | (simp; omega)); have cc1_0_3 := hc1 (w.heap.size) 3 (by first | assumption | (simp; done) | (simp; omega)); have cf1_0_3 := hf1 (w.heap.size) 3 (by first | assumption | (simp; done) | (simp; omega)); have cc1_1_0 := hc1 (w.heap.size + 1) 0 (by first | assumption | (simp; done) | (simp; omega)); have cf1_1_0 := hf1 (w.heap.size + 1) 0 (by first | assumption | (simp; done) | (simp; omega)); have cc1_1_1 := hc1 (w.heap.size + 1) 1 (by first | assumption | (simp; done) | (simp; omega)); have cf1_1_1 := hf1 (w.heap.size + 1) 1 (by first | assumption | (simp; done) | (simp; omega)); have cc1_1_2 := hc1 (w.heap.size + 1) 2 (by first | assumption | (simp; done) | (simp; omega)); have cf1_1_2 := hf1 (w.heap.size + 1) 2 (by first | assumption | (simp; done) | (simp; omega)); have cc1_1_3 := hc1 (w.heap.size + 1) 3 (by first | assumption | (simp; done) | (simp; omega)); have cf1_1_3 := hf1 (w.heap.size + 1) 3 (by first | assumption | (simp; done) | (simp; omega)); have cc1_2_0 := hc1 (w.heap.size + 1 + 1) 0 (by first | assumption | (simp; done) | (simp; omega)); have cf1_2_0 := hf1 (w.heap.size + 1 + 1) 0 (by first | assumption | (simp; done) | (simp; omega)); have cc1_2_1 := hc1 (w.heap.size + 1 + 1) 1 (by first | assumption | (simp; done) | (simp; omega)); have cf1_2_1 := hf1 (w.heap.size + 1 + 1) 1 (by first | assumption | (simp; done) | (simp; omega)); have cc1_2_2 := hc1 (w.heap.size + 1 + 1) 2 (by first | assumption | (simp; done) | (simp; omega)); have cf1_2_2 := hf1 (w.heap.size + 1 + 1) 2 (by first | assumption | (simp; done) | (simp; omega)); have cc1_2_3 := hc1 (w.heap.size + 1 + 1) 3 (by first | assumption | (simp; done) | (simp; omega)); have cf1_2_3 := hf1 (w.heap.size + 1 + 1) 3 (by first | assumption | (simp; done) | (simp; omega)); clear hc1 hf1; simp [go_sem] at cc1_0_0 cf1_0_0 cc1_0_1 cf1_0_1 cc1_0_2 cf1_0_2 cc1_0_3 cf1_0_3 cc1_1_0 cf1_1_0 cc1_1_1 cf1_1_1 cc1_1_2 cf1_1_2 cc1_1_3 cf1_1_3 cc1_2_0 cf1_2_0 cc1_2_1 cf1_2_1 cc1_2_2 cf1_2_2 cc1_2_3 cf1_2_3)
 go_wp2_with fail
 exact bodyPost_ret (v := .tuple #[.agg #[.float .f64 0, .float .f64 0, .bool true, .bool true], .bool true]) (by simp [results, Tryz.results119, go_sem, *]) rfl ⟨rfl, by (repeat (first | with_reducible exact Below.refl _ _ | ((with_reducible refine Below.alloc1 ?_ ?_ _); (· first | omega | (simp; done) | (simp; omega))) | (with_reducible refine Below.drew ?_) | (with_reducible refine below_drewN' ?_ _) | ((with_reducible refine Below.setCell1 ?_ ?_ _); (· first | omega | (simp; done) | (simp; omega))) | ((with_reducible refine Below.after (by assumption) ?_ ?_); (· first | omega | (simp; done) | (simp; omega)))))⟩

set_option maxRecDepth 100000 in
theorem join_ns (lo hi lo' hi' : Nat) (a b a' b' : Bool) (w : World) (hl : lo < 2 ^ 64) (hh : hi < 2 ^ 64) (hl' : lo' < 2 ^ 64) (hh' : hi' < 2 ^ 64) (hr : Hid (canonS lo hi a b = none)) (l' h' : Key) (hr' : Hid (canonS lo' hi' a' b' = some (l', h'))) :
  Calls Tryz.prog 119 #[.agg #[.float .f64 lo, .float .f64 hi, .bool a, .bool b], .agg #[.float .f64 lo', .float .f64 hi', .bool a', .bool b']] w (Ret (.tuple #[.agg #[.float .f64 l'.bits, .float .f64 h'.bits, .bool false, .bool false], .bool true]) w) := by
 go_enter Tryz.func119, Tryz.ntmps119
 go_wp2_with fail
 (refine wp_region_ext_tail 4 (by kernel_rfl) (by kernel_rfl) (by kernel_rfl) ?_; simp only [List.take_succ_cons, List.take_zero, List.drop_succ_cons, List.drop_zero]; (repeat (go_big_quiet_step (first | (go_at_call 116; with_reducible exact Calls.ext_of (canon_isN lo hi a b _ hl hh hr)) | (go_at_call 116; with_reducible exact Calls.ext_of (canon_isS lo' hi' a' b' l' h' _ hl' hh' hr'))))); refine wpQuiet_nil ?_; rintro w1 ⟨x1, hx1⟩; have hb1 := x1.b; rw [← hx1] at hb1; clear hx1 x1; obtain ⟨hc1, hf1⟩ := bcell hb1; (try simp only [qD, qE, qF] at hc1 hf1); have hz1 := hb1.size; (try simp at hz1); (try have hy1_0 : w.heap.size < w1.heap.size := by omega); (try have hy1_1 : w.heap.size + 1 < w1.heap.size := by omega); (try have hy1_2 : w.heap.size + 2 < w1.heap.size := by omega); (try have hy1_3 : w.heap.size + 3 < w1.heap.size := by omega); (try have hx1_0 : w.heap.size ≤ w1.heap.size := by omega); (try have hx1_1 : w.heap.size + 1 ≤ w1.heap.size := by omega); (try have hx1_2 : w.heap.size + 2 ≤ w1.heap.size := by omega))
 (have cc1_0_0 := hc1 (w.heap.size) 0 (by first | assumption | (simp; done) | (simp; omega)); have cf1_0_0 := hf1 (w.heap.size) 0 (by first | assumption | (simp; done) | (simp; omega)); have cc1_0_1 := hc1 (w.heap.size) 1 (by first | assumption | (simp; done) | (simp; omega)); have cf1_0_1 := hf1 (w.heap.size) 1 (by first | assumption | (simp; done) | (simp; omega)); have cc1_0_2 := hc1 (w.heap.size) 2 (by first | assumption | (simp; done) | (simp; omega)); have cf1_0_2 := hf1 (w.heap.size) 2 (by first | assumption | (simp; done) | (simp; omega)); have cc1_0_3 := hc1 (w.heap.size) 3 (by first | assumption | (simp; done) | (simp; omega)); have cf1_0_3 := hf1 (w.heap.size) 3 (by first | assumption | (simp; done) | (simp; omega)); have cc1_1_0 := hc1 (w.heap.size + 1) 0 (by first | assumption | (simp; done) | (simp; omega)); have cf1_1_0 := hf1 (w.heap.size + 1) 0 (by first | assumption | (simp; done) | (simp; omega)); have cc1_1_1 := hc1 (w.heap.size + 1) 1 (by first | assumption | (simp; done) | (simp; omega)); have cf1_1_1 := hf1 (w.heap.size + 1) 1 (by first | assumption | (simp; done) | (simp; omega)); have cc1_1_2 := hc1 (w.heap.size + 1) 2 (by first | assumption | (simp; done) | (simp; omega)); have cf1_1_2 := hf1 (w.heap.size + 1) 2 (by first | assumption | (simp; done) | (simp; omega)); have cc1_1_3 := hc1 (w.heap.size + 1) 3 (by first | assumption | (simp; done) | (simp; omega)); have cf1_1_3 := hf1 (w.heap.size + 1) 3 (by first | assumption | (simp; done) | (simp; omega)); have cc1_2_0 := hc1 (w.heap.size + 1 + 1) 0 (by first | assumption | (simp; done) | (simp; omega)); have cf1_2_0 := hf1 (w.heap.size + 1 + 1) 0 (by first | assumption | (simp; done) | (simp; omega)); have cc1_2_1 := hc1 (w.heap.size + 1 + 1) 1 (by first | assumption | (simp; done) | (simp; omega)); have cf1_2_1 := hf1 (w.heap.size + 1 + 1) 1 (by first | assumption | (simp; done) | (simp; omega)); have cc1_2_2 := hc1 (w.heap.size + 1 + 1) 2 (by first | assumption | (simp; done) | (simp; omega)); have cf1_2_2 := hf1 (w.heap.size + 1 + 1) 2 (by first | assumption | (simp; done) | (simp; omega)); have cc1_2_3 := hc1 (w.heap.size + 1 + 1) 3 (by first | assumption | (simp; done) | (simp; omega)); have cf1_2_3 := hf1 (w.heap.size + 1 + 1) 3 (by first | assumption | (simp; done) | (simp; omega)); clear hc1 hf1; simp [go_sem] at cc1_0_0 cf1_0_0 cc1_0_1 cf1_0_1 cc1_0_2 cf1_0_2 cc1_0_3 cf1_0_3 cc1_1_0 cf1_1_0 cc1_1_1 cf1_1_1 cc1_1_2 cf1_1_2 cc1_1_3 cf1_1_3 cc1_2_0 cf1_2_0 cc1_2_1 cf1_2_1 cc1_2_2 cf1_2_2 cc1_2_3 cf1_2_3)
 go_wp2_with fail
 exact bodyPost_ret (v := .tuple #[.agg #[.float .f64 l'.bits, .float .f64 h'.bits, .bool false, .bool false], .bool true]) (by simp [results, Tryz.results119, go_sem, *]) rfl ⟨rfl, by (repeat (first | with_reducible exact Below.refl _ _ | ((with_reducible refine Below.alloc1 ?_ ?_ _); (· first | omega | (simp; done) | (simp; omega))) | (with_reducible refine Below.drew ?_) | (with_reducible refine below_drewN' ?_ _) | ((with_reducible refine Below.setCell1 ?_ ?_ _); (· first | omega | (simp; done) | (simp; omega))) | ((with_reducible refine Below.after (by assumption) ?_ ?_); (· first | omega | (simp; done) | (simp; omega)))))⟩

set_option maxRecDepth 100000 in
theorem join_sn (lo hi lo' hi' : Nat) (a b a' b' : Bool) (w : World) (hl : lo < 2 ^ 64) (hh : hi < 2 ^ 64) (hl' : lo' < 2 ^ 64) (hh' : hi' < 2 ^ 64) (l h : Key) (hr : Hid (canonS lo hi a b = some (l, h))) (hr' : Hid (canonS lo' hi' a' b' = none)) :
  Calls Tryz.prog 119 #[.agg #[.float .f64 lo, .float .f64 hi, .bool a, .bool b], .agg #[.float .f64 lo', .float .f64 hi', .bool a', .bool b']] w (Ret (.tuple #[.agg #[.float .f64 l.bits, .float .f64 h.bits, .bool false, .bool false], .bool true]) w) := by
 go_enter Tryz.func119, Tryz.ntmps119
 go_wp2_with fail
 (refine wp_region_ext_tail 4 (by kernel_rfl) (by kernel_rfl) (by kernel_rfl) ?_; simp only [List.take_succ_cons, List.take_zero, List.drop_succ_cons, List.drop_zero]; (repeat (go_big_quiet_step (first | (go_at_call 116; with_reducible exact Calls.ext_of (canon_isS lo hi a b l h _ hl hh hr)) | (go_at_call 116; with_reducible exact Calls.ext_of (canon_isN lo' hi' a' b' _ hl' hh' hr'))))); refine wpQuiet_nil ?_; rintro w1 ⟨x1, hx1⟩; have hb1 := x1.b; rw [← hx1] at hb1; clear hx1 x1; obtain ⟨hc1, hf1⟩ := bcell hb1; (try simp only [qD, qE, qF] at hc1 hf1); have hz1 := hb1.size; (try simp at hz1); (try have hy1_0 : w.heap.size < w1.heap.size := by omega); (try have hy1_1 : w.heap.size + 1 < w1.heap.size := by omega); (try have hy1_2 : w.heap.size + 2 < w1.heap.size := by omega); (try have hy1_3 : w.heap.size + 3 < w1.heap.size := by omega); (try have hx1_0 : w.heap.size ≤ w1.heap.size := by omega); (try have hx1_1 : w.heap.size + 1 ≤ w1.heap.size := by omega); (try have hx1_2 : w.heap.size + 2 ≤ w1.heap.size := by omega))
 (have cc1_0_0 := hc1 (w.heap.size) 0 (by first | assumption | (simp; done) | (simp; omega)); have cf1_0_0 := hf1 (w.heap.size) 0 (by first | assumption | (simp; done) | (simp; omega)); have cc1_0_1 := hc1 (w.heap.size) 1 (by first | assumption | (simp; done) | (simp; omega)); have cf1_0_1 := hf1 (w.heap.size) 1 (by first | assumption | (simp; done) | (simp; omega)); have cc1_0_2 := hc1 (w.heap.size) 2 (by first | assumption | (simp; done) | (simp; omega)); have cf1_0_2 := hf1 (w.heap.size) 2 (by first | assumption | (simp; done) | (simp; omega)); have cc1_0_3 := hc1 (w.heap.size) 3 (by first | assumption | (simp; done) | (simp; omega)); have cf1_0_3 := hf1 (w.heap.size) 3 (by first | assumption | (simp; done) | (simp; omega)); have cc1_1_0 := hc1 (w.heap.size + 1) 0 (by first | assumption | (simp; done) | (simp; omega)); have cf1_1_0 := hf1 (w.heap.size + 1) 0 (by first | assumption | (simp; done) | (simp; omega)); have cc1_1_1 := hc1 (w.heap.size + 1) 1 (by first | assumption | (simp; done) | (simp; omega)); have cf1_1_1 := hf1 (w.heap.size + 1) 1 (by first | assumption | (simp; done) | (simp; omega)); have cc1_1_2 := hc1 (w.heap.size + 1) 2 (by first | assumption | (simp; done) | (simp; omega)); have cf1_1_2 := hf1 (w.heap.size + 1) 2 (by first | assumption | (simp; done) | (simp; omega)); have cc1_1_3 := hc1 (w.heap.size + 1) 3 (by first | assumption | (simp; done) | (simp; omega)); have cf1_1_3 := hf1 (w.heap.size + 1) 3 (by first | assumption | (simp; done) | (simp; omega)); have cc1_2_0 := hc1 (w.heap.size + 1 + 1) 0 (by first | assumption | (simp; done) | (simp; omega)); have cf1_2_0 := hf1 (w.heap.size + 1 + 1) 0 (by first | assumption | (simp; done) | (simp; omega)); have cc1_2_1 := hc1 (w.heap.size + 1 + 1) 1 (by first | assumption | (simp; done) | (simp; omega)); have cf1_2_1 := hf1 (w.heap.size + 1 + 1) 1 (by first | assumption | (simp; done) | (simp; omega)); have cc1_2_2 := hc1 (w.heap.size + 1 + 1) 2 (by first | assumption | (simp; done) | (simp; omega)); have cf1_2_2 := hf1 (w.heap.size + 1 + 1) 2 (by first | assumption | (simp; done) | (simp; omega)); have cc1_2_3 := hc1 (w.heap.size + 1 + 1) 3 (by first | assumption | (simp; done) | (simp; omega)); have cf1_2_3 := hf1 (w.heap.size + 1 + 1) 3 (by first | assumption | (simp; done) | (simp; omega)); clear hc1 hf1; simp [go_sem] at cc1_0_0 cf1_0_0 cc1_0_1 cf1_0_1 cc1_0_2 cf1_0_2 cc1_0_3 cf1_0_3 cc1_1_0 cf1_1_0 cc1_1_1 cf1_1_1 cc1_1_2 cf1_1_2 cc1_1_3 cf1_1_3 cc1_2_0 cf1_2_0 cc1_2_1 cf1_2_1 cc1_2_2 cf1_2_2 cc1_2_3 cf1_2_3)
 go_wp2_with fail
 exact bodyPost_ret (v := .tuple #[.agg #[.float .f64 l.bits, .float .f64 h.bits, .bool false, .bool false], .bool true]) (by simp [results, Tryz.results119, go_sem, *]) rfl ⟨rfl, by (repeat (first | with_reducible exact Below.refl _ _ | ((with_reducible refine Below.alloc1 ?_ ?_ _); (· first | omega | (simp; done) | (simp; omega))) | (with_reducible refine Below.drew ?_) | (with_reducible refine below_drewN' ?_ _) | ((with_reducible refine Below.setCell1 ?_ ?_ _); (· first | omega | (simp; done) | (simp; omega))) | ((with_reducible refine Below.after (by assumption) ?_ ?_); (· first | omega | (simp; done) | (simp; omega)))))⟩

set_option maxRecDepth 100000 in
theorem join_ssA (lo hi lo' hi' : Nat) (a b a' b' : Bool) (w : World) (hl : lo < 2 ^ 64) (hh : hi < 2 ^ 64) (hl' : lo' < 2 ^ 64) (hh' : hi' < 2 ^ 64) (l h : Key) (hr : Hid (canonS lo hi a b = some (l, h))) (l' h' : Key) (hr' : Hid (canonS lo' hi' a' b' = some (l', h'))) (F1 : flt (knext h).bits l'.bits = true) :
  Calls Tryz.prog 119 #[.agg #[.float .f64 lo, .float .f64 hi, .bool a, .bool b], .agg #[.float .f64 lo', .float .f64 hi', .bool a', .bool b']] w (Ret (.tuple #[.agg #[.float .f64 0, .float .f64 0, .bool true, .bool true], .bool false]) w) := by
 go_enter Tryz.func119, Tryz.ntmps119
 go_wp2_with fail
 (refine wp_region_ext_tail 4 (by kernel_rfl) (by kernel_rfl) (by kernel_rfl) ?_; simp only [List.take_succ_cons, List.take_zero, List.drop_succ_cons, List.drop_zero]; (repeat (go_big_quiet_step (first | (go_at_call 116; with_reducible exact Calls.ext_of (canon_isS lo hi a b l h _ hl hh hr)) | (go_at_call 116; with_reducible exact Calls.ext_of (canon_isS lo' hi' a' b' l' h' _ hl' hh' hr'))))); refine wpQuiet_nil ?_; rintro w1 ⟨x1, hx1⟩; have hb1 := x1.b; rw [← hx1] at hb1; clear hx1 x1; obtain ⟨hc1, hf1⟩ := bcell hb1; (try simp only [qD, qE, qF] at hc1 hf1); have hz1 := hb1.size; (try simp at hz1); (try have hy1_0 : w.heap.size < w1.heap.size := by omega); (try have hy1_1 : w.heap.size + 1 < w1.heap.size := by omega); (try have hy1_2 : w.heap.size + 2 < w1.heap.size := by omega); (try have hy1_3 : w.heap.size + 3 < w1.heap.size := by omega); (try have hx1_0 : w.heap.size ≤ w1.heap.size := by omega); (try have hx1_1 : w.heap.size + 1 ≤ w1.heap.size := by omega); (try have hx1_2 : w.heap.size + 2 ≤ w1.heap.size := by omega))
 (have cc1_0_0 := hc1 (w.heap.size) 0 (by first | assumption | (simp; done) | (simp; omega)); have cf1_0_0 := hf1 (w.heap.size) 0 (by first | assumption | (simp; done) | (simp; omega)); have cc1_0_1 := hc1 (w.heap.size) 1 (by first | assumption | (simp; done) | (simp; omega)); have cf1_0_1 := hf1 (w.heap.size) 1 (by first | assumption | (simp; done) | (simp; omega)); have cc1_0_2 := hc1 (w.heap.size) 2 (by first | assumption | (simp; done) | (simp; omega)); have cf1_0_2 := hf1 (w.heap.size) 2 (by first | assumption | (simp; done) | (simp; omega)); have cc1_0_3 := hc1 (w.heap.size) 3 (by first | assumption | (simp; done) | (simp; omega)); have cf1_0_3 := hf1 (w.heap.size) 3 (by first | assumption | (simp; done) | (simp; omega)); have cc1_1_0 := hc1 (w.heap.size + 1) 0 (by first | assumption | (simp; done) | (simp; omega)); have cf1_1_0 := hf1 (w.heap.size + 1) 0 (by first | assumption | (simp; done) | (simp; omega)); have cc1_1_1 := hc1 (w.heap.size + 1) 1 (by first | assumption | (simp; done) | (simp; omega)); have cf1_1_1 := hf1 (w.heap.size + 1) 1 (by first | assumption | (simp; done) | (simp; omega)); have cc1_1_2 := hc1 (w.heap.size + 1) 2 (by first | assumption | (simp; done) | (simp; omega)); have cf1_1_2 := hf1 (w.heap.size + 1) 2 (by first | assumption | (simp; done) | (simp; omega)); have cc1_1_3 := hc1 (w.heap.size + 1) 3 (by first | assumption | (simp; done) | (simp; omega)); have cf1_1_3 := hf1 (w.heap.size + 1) 3 (by first | assumption | (simp; done) | (simp; omega)); have cc1_2_0 := hc1 (w.heap.size + 1 + 1) 0 (by first | assumption | (simp; done) | (simp; omega)); have cf1_2_0 := hf1 (w.heap.size + 1 + 1) 0 (by first | assumption | (simp; done) | (simp; omega)); have cc1_2_1 := hc1 (w.heap.size + 1 + 1) 1 (by first | assumption | (simp; done) | (simp; omega)); have cf1_2_1 := hf1 (w.heap.size + 1 + 1) 1 (by first | assumption | (simp; done) | (simp; omega)); have cc1_2_2 := hc1 (w.heap.size + 1 + 1) 2 (by first | assumption | (simp; done) | (simp; omega)); have cf1_2_2 := hf1 (w.heap.size + 1 + 1) 2 (by first | assumption | (simp; done) | (simp; omega)); have cc1_2_3 := hc1 (w.heap.size + 1 + 1) 3 (by first | assumption | (simp; done) | (simp; omega)); have cf1_2_3 := hf1 (w.heap.size + 1 + 1) 3 (by first | assumption | (simp; done) | (simp; omega)); clear hc1 hf1; simp [go_sem] at cc1_0_0 cf1_0_0 cc1_0_1 cf1_0_1 cc1_0_2 cf1_0_2 cc1_0_3 cf1_0_3 cc1_1_0 cf1_1_0 cc1_1_1 cf1_1_1 cc1_1_2 cf1_1_2 cc1_1_3 cf1_1_3 cc1_2_0 cf1_2_0 cc1_2_1 cf1_2_1 cc1_2_2 cf1_2_2 cc1_2_3 cf1_2_3)
 go_wp2_with fail
 (generalize hW2 : World.setCell _ _ _ = w2; have hB2 : Below w.heap.size w w2 := (by rw [← hW2]; (repeat (first | with_reducible exact Below.refl _ _ | ((with_reducible refine Below.alloc1 ?_ ?_ _); (· first | omega | (simp; done) | (simp; omega))) | (with_reducible refine Below.drew ?_) | (with_reducible refine below_drewN' ?_ _) | ((with_reducible refine Below.setCell1 ?_ ?_ _); (· first | omega | (simp; done) | (simp; omega))) | ((with_reducible refine Below.after (by assumption) ?_ ?_); (· first | omega | (simp; done) | (simp; omega)))))); have hS2 := congrArg (fun W => W.heap.size) hW2.symm; simp [go_sem] at hS2; have cc2_0_0 := congrArg (fun W => W.cell? ⟨w.heap.size, 0, none⟩) hW2.symm; have cf2_0_0 := congrArg (fun W => W.frozen? ⟨w.heap.size, 0, none⟩) hW2.symm; have cc2_0_1 := congrArg (fun W => W.cell? ⟨w.heap.size, 1, none⟩) hW2.symm; have cf2_0_1 := congrArg (fun W => W.frozen? ⟨w.heap.size, 1, none⟩) hW2.symm; have cc2_0_2 := congrArg (fun W => W.cell? ⟨w.heap.size, 2, none⟩) hW2.symm; have cf2_0_2 := congrArg (fun W => W.frozen? ⟨w.heap.size, 2, none⟩) hW2.symm; have cc2_0_3 := congrArg (fun W => W.cell? ⟨w.heap.size, 3, none⟩) hW2.symm; have cf2_0_3 := congrArg (fun W => W.frozen? ⟨w.heap.size, 3, none⟩) hW2.symm; have cc2_1_0 := congrArg (fun W => W.cell? ⟨w.heap.size + 1, 0, none⟩) hW2.symm; have cf2_1_0 := congrArg (fun W => W.frozen? ⟨w.heap.size + 1, 0, none⟩) hW2.symm; have cc2_1_1 := congrArg (fun W => W.cell? ⟨w.heap.size + 1, 1, none⟩) hW2.symm; have cf2_1_1 := congrArg (fun W => W.frozen? ⟨w.heap.size + 1, 1, none⟩) hW2.symm; have cc2_1_2 := congrArg (fun W => W.cell? ⟨w.heap.size + 1, 2, none⟩) hW2.symm; have cf2_1_2 := congrArg (fun W => W.frozen? ⟨w.heap.size + 1, 2, none⟩) hW2.symm; have cc2_1_3 := congrArg (fun W => W.cell? ⟨w.heap.size + 1, 3, none⟩) hW2.symm; have cf2_1_3 := congrArg (fun W => W.frozen? ⟨w.heap.size + 1, 3, none⟩) hW2.symm; have cc2_2_0 := congrArg (fun W => W.cell? ⟨w.heap.size + 1 + 1, 0, none⟩) hW2.symm; have cf2_2_0 := congrArg (fun W => W.frozen? ⟨w.heap.size + 1 + 1, 0, none⟩) hW2.symm; have cc2_2_1 := congrArg (fun W => W.cell? ⟨w.heap.size + 1 + 1, 1, none⟩) hW2.symm; have cf2_2_1 := congrArg (fun W => W.frozen? ⟨w.heap.size + 1 + 1, 1, none⟩) hW2.symm; have cc2_2_2 := congrArg (fun W => W.cell? ⟨w.heap.size + 1 + 1, 2, none⟩) hW2.symm; have cf2_2_2 := congrArg (fun W => W.frozen? ⟨w.heap.size + 1 + 1, 2, none⟩) hW2.symm; have cc2_2_3 := congrArg (fun W => W.cell? ⟨w.heap.size + 1 + 1, 3, none⟩) hW2.symm; have cf2_2_3 := congrArg (fun W => W.frozen? ⟨w.heap.size + 1 + 1, 3, none⟩) hW2.symm; clear hW2; simp [go_sem, *] at cc2_0_0; simp [go_sem, *] at cf2_0_0; simp [go_sem, *] at cc2_0_1; simp [go_sem, *] at cf2_0_1; simp [go_sem, *] at cc2_0_2; simp [go_sem, *] at cf2_0_2; simp [go_sem, *] at cc2_0_3; simp [go_sem, *] at cf2_0_3; simp [go_sem, *] at cc2_1_0; simp [go_sem, *] at cf2_1_0; simp [go_sem, *] at cc2_1_1; simp [go_sem, *] at cf2_1_1; simp [go_sem, *] at cc2_1_2; simp [go_sem, *] at cf2_1_2; simp [go_sem, *] at cc2_1_3; simp [go_sem, *] at cf2_1_3; simp [go_sem, *] at cc2_2_0; simp [go_sem, *] at cf2_2_0; simp [go_sem, *] at cc2_2_1; simp [go_sem, *] at cf2_2_1; simp [go_sem, *] at cc2_2_2; simp [go_sem, *] at cf2_2_2; simp [go_sem, *] at cc2_2_3; simp [go_sem, *] at cf2_2_3; (try have hw2_0 : w.heap.size < w2.heap.size := by omega); (try have hw2_1 : w.heap.size + 1 < w2.heap.size := by omega); (try have hw2_2 : w.heap.size + 1 + 1 < w2.heap.size := by omega); (try have hw2_3 : w.heap.size + 1 + 1 + 1 < w2.heap.size := by omega); clear hS2; (try clear hb1); (try clear hz1); (try clear hB1); (try clear cc1_0_0); (try clear cf1_0_0); (try clear cc1_0_1); (try clear cf1_0_1); (try clear cc1_0_2); (try clear cf1_0_2); (try clear cc1_0_3); (try clear cf1_0_3); (try clear cc1_1_0); (try clear cf1_1_0); (try clear cc1_1_1); (try clear cf1_1_1); (try clear cc1_1_2); (try clear cf1_1_2); (try clear cc1_1_3); (try clear cf1_1_3); (try clear cc1_2_0); (try clear cf1_2_0); (try clear cc1_2_1); (try clear cf1_2_1); (try clear cc1_2_2); (try clear cf1_2_2); (try clear cc1_2_3); (try clear cf1_2_3); (try clear hy1_0); (try clear hx1_0); (try clear hw1_0); (try clear hy1_1); (try clear hx1_1); (try clear hw1_1); (try clear hy1_2); (try clear hx1_2); (try clear hw1_2); (try clear hy1_3); (try clear hx1_3); (try clear hw1_3))
 (refine wp_region_ext (by kernel_rfl) (by kernel_rfl) ?_; (repeat (go_big_quiet_step (first | (go_at_call 147; with_reducible exact Calls.ext_same (next_any _ _))))); refine wpQuiet_nil ?_; rintro w3 ⟨x3, hx3⟩; have hb3 := x3.b; rw [← hx3] at hb3; clear hx3 x3; obtain ⟨hc3, hf3⟩ := bcell hb3; (try simp only [qD, qE, qF] at hc3 hf3); have hz3 := hb3.size; (try simp at hz3); (try have hy3_0 : w.heap.size < w3.heap.size := by omega); (try have hy3_1 : w.heap.size + 1 < w3.heap.size := by omega); (try have hy3_2 : w.heap.size + 2 < w3.heap.size := by omega); (try have hy3_3 : w.heap.size + 3 < w3.heap.size := by omega); (try have hx3_0 : w.heap.size ≤ w3.heap.size := by omega); (try have hx3_1 : w.heap.size + 1 ≤ w3.heap.size := by omega); (try have hx3_2 : w.heap.size + 2 ≤ w3.heap.size := by omega))
 go_wp2_with (go_at_call 146; (with_reducible refine (noneV_any _).mono ?_); rintro e w4 ⟨rfl, hb4⟩; obtain ⟨hc4, hf4⟩ := bcell hb4; (try simp only [qD, qE, qF] at hc4 hf4); have hz4 := hb4.size; (try simp at hz4); (try have hy4_0 : w.heap.size < w4.heap.size := by omega); (try have hy4_1 : w.heap.size + 1 < w4.heap.size := by omega); (try have hy4_2 : w.heap.size + 2 < w4.heap.size := by omega); (try have hy4_3 : w.heap.size + 3 < w4.heap.size := by omega); (try have hx4_0 : w.heap.size ≤ w4.heap.size := by omega); (try have hx4_1 : w.heap.size + 1 ≤ w4.heap.size := by omega); (try have hx4_2 : w.heap.size + 2 ≤ w4.heap.size := by omega))
 exact bodyPost_ret (v := .tuple #[.agg #[.float .f64 0, .float .f64 0, .bool true, .bool true], .bool false]) (by simp [results, Tryz.results119, go_sem, *]) rfl ⟨rfl, by (repeat (first | with_reducible exact Below.refl _ _ | ((with_reducible refine Below.alloc1 ?_ ?_ _); (· first | omega | (simp; done) | (simp; omega))) | (with_reducible refine Below.drew ?_) | (with_reducible refine below_drewN' ?_ _) | ((with_reducible refine Below.setCell1 ?_ ?_ _); (· first | omega | (simp; done) | (simp; omega))) | ((with_reducible refine Below.after (by assumption) ?_ ?_); (· first | omega | (simp; done) | (simp; omega)))))⟩

set_option maxRecDepth 100000 in
theorem join_ssB (lo hi lo' hi' : Nat) (a b a' b' : Bool) (w : World) (hl : lo < 2 ^ 64) (hh : hi < 2 ^ 64) (hl' : lo' < 2 ^ 64) (hh' : hi' < 2 ^ 64) (l h : Key) (hr : Hid (canonS lo hi a b = some (l, h))) (l' h' : Key) (hr' : Hid (canonS lo' hi' a' b' = some (l', h'))) (F1 : flt (knext h).bits l'.bits = false) (F2 : flt (knext h').bits l.bits = true) :
  Calls Tryz.prog 119 #[.agg #[.float .f64 lo, .float .f64 hi, .bool a, .bool b], .agg #[.float .f64 lo', .float .f64 hi', .bool a', .bool b']] w (Ret (.tuple #[.agg #[.float .f64 0, .float .f64 0, .bool true, .bool true], .bool false]) w) := by
 go_enter Tryz.func119, Tryz.ntmps119
 go_wp2_with fail
 (refine wp_region_ext_tail 4 (by kernel_rfl) (by kernel_rfl) (by kernel_rfl) ?_; simp only [List.take_succ_cons, List.take_zero, List.drop_succ_cons, List.drop_zero]; (repeat (go_big_quiet_step (first | (go_at_call 116; with_reducible exact Calls.ext_of (canon_isS lo hi a b l h _ hl hh hr)) | (go_at_call 116; with_reducible exact Calls.ext_of (canon_isS lo' hi' a' b' l' h' _ hl' hh' hr'))))); refine wpQuiet_nil ?_; rintro w1 ⟨x1, hx1⟩; have hb1 := x1.b; rw [← hx1] at hb1; clear hx1 x1; obtain ⟨hc1, hf1⟩ := bcell hb1; (try simp only [qD, qE, qF] at hc1 hf1); have hz1 := hb1.size; (try simp at hz1); (try have hy1_0 : w.heap.size < w1.heap.size := by omega); (try have hy1_1 : w.heap.size + 1 < w1.heap.size := by omega); (try have hy1_2 : w.heap.size + 2 < w1.heap.size := by omega); (try have hy1_3 : w.heap.size + 3 < w1.heap.size := by omega); (try have hx1_0 : w.heap.size ≤ w1.heap.size := by omega); (try have hx1_1 : w.heap.size + 1 ≤ w1.heap.size := by omega); (try have hx1_2 : w.heap.size + 2 ≤ w1.heap.size := by omega))
 (have cc1_0_0 := hc1 (w.heap.size) 0 (by first | assumption | (simp; done) | (simp; omega)); have cf1_0_0 := hf1 (w.heap.size) 0 (by first | assumption | (simp; done) | (simp; omega)); have cc1_0_1 := hc1 (w.heap.size) 1 (by first | assumption | (simp; done) | (simp; omega)); have cf1_0_1 := hf1 (w.heap.size) 1 (by first | assumption | (simp; done) | (simp; omega)); have cc1_0_2 := hc1 (w.heap.size) 2 (by first | assumption | (simp; done) | (simp; omega)); have cf1_0_2 := hf1 (w.heap.size) 2 (by first | assumption | (simp; done) | (simp; omega)); have cc1_0_3 := hc1 (w.heap.size) 3 (by first | assumption | (simp; done) | (simp; omega)); have cf1_0_3 := hf1 (w.heap.size) 3 (by first | assumption | (simp; done) | (simp; omega)); have cc1_1_0 := hc1 (w.heap.size + 1) 0 (by first | assumption | (simp; done) | (simp; omega)); have cf1_1_0 := hf1 (w.heap.size + 1) 0 (by first | assumption | (simp; done) | (simp; omega)); have cc1_1_1 := hc1 (w.heap.size + 1) 1 (by first | assumption | (simp; done) | (simp; omega)); have cf1_1_1 := hf1 (w.heap.size + 1) 1 (by first | assumption | (simp; done) | (simp; omega)); have cc1_1_2 := hc1 (w.heap.size + 1) 2 (by first | assumption | (simp; done) | (simp; omega)); have cf1_1_2 := hf1 (w.heap.size + 1) 2 (by first | assumption | (simp; done) | (simp; omega)); have cc1_1_3 := hc1 (w.heap.size + 1) 3 (by first | assumption | (simp; done) | (simp; omega)); have cf1_1_3 := hf1 (w.heap.size + 1) 3 (by first | assumption | (simp; done) | (simp; omega)); have cc1_2_0 := hc1 (w.heap.size + 1 + 1) 0 (by first | assumption | (simp; done) | (simp; omega)); have cf1_2_0 := hf1 (w.heap.size + 1 + 1) 0 (by first | assumption | (simp; done) | (simp; omega)); have cc1_2_1 := hc1 (w.heap.size + 1 + 1) 1 (by first | assumption | (simp; done) | (simp; omega)); have cf1_2_1 := hf1 (w.heap.size + 1 + 1) 1 (by first | assumption | (simp; done) | (simp; omega)); have cc1_2_2 := hc1 (w.heap.size + 1 + 1) 2 (by first | assumption | (simp; done) | (simp; omega)); have cf1_2_2 := hf1 (w.heap.size + 1 + 1) 2 (by first | assumption | (simp; done) | (simp; omega)); have cc1_2_3 := hc1 (w.heap.size + 1 + 1) 3 (by first | assumption | (simp; done) | (simp; omega)); have cf1_2_3 := hf1 (w.heap.size + 1 + 1) 3 (by first | assumption | (simp; done) | (simp; omega)); clear hc1 hf1; simp [go_sem] at cc1_0_0 cf1_0_0 cc1_0_1 cf1_0_1 cc1_0_2 cf1_0_2 cc1_0_3 cf1_0_3 cc1_1_0 cf1_1_0 cc1_1_1 cf1_1_1 cc1_1_2 cf1_1_2 cc1_1_3 cf1_1_3 cc1_2_0 cf1_2_0 cc1_2_1 cf1_2_1 cc1_2_2 cf1_2_2 cc1_2_3 cf1_2_3)
 go_wp2_with fail
 (generalize hW2 : World.setCell _ _ _ = w2; have hB2 : Below w.heap.size w w2 := (by rw [← hW2]; (repeat (first | with_reducible exact Below.refl _ _ | ((with_reducible refine Below.alloc1 ?_ ?_ _); (· first | omega | (simp; done) | (simp; omega))) | (with_reducible refine Below.drew ?_) | (with_reducible refine below_drewN' ?_ _) | ((with_reducible refine Below.setCell1 ?_ ?_ _); (· first | omega | (simp; done) | (simp; omega))) | ((with_reducible refine Below.after (by assumption) ?_ ?_); (· first | omega | (simp; done) | (simp; omega)))))); have hS2 := congrArg (fun W => W.heap.size) hW2.symm; simp [go_sem] at hS2; have cc2_0_0 := congrArg (fun W => W.cell? ⟨w.heap.size, 0, none⟩) hW2.symm; have cf2_0_0 := congrArg (fun W => W.frozen? ⟨w.heap.size, 0, none⟩) hW2.symm; have cc2_0_1 := congrArg (fun W => W.cell? ⟨w.heap.size, 1, none⟩) hW2.symm; have cf2_0_1 := congrArg (fun W => W.frozen? ⟨w.heap.size, 1, none⟩) hW2.symm; have cc2_0_2 := congrArg (fun W => W.cell? ⟨w.heap.size, 2, none⟩) hW2.symm; have cf2_0_2 := congrArg (fun W => W.frozen? ⟨w.heap.size, 2, none⟩) hW2.symm; have cc2_0_3 := congrArg (fun W => W.cell? ⟨w.heap.size, 3, none⟩) hW2.symm; have cf2_0_3 := congrArg (fun W => W.frozen? ⟨w.heap.size, 3, none⟩) hW2.symm; have cc2_1_0 := congrArg (fun W => W.cell? ⟨w.heap.size + 1, 0, none⟩) hW2.symm; have cf2_1_0 := congrArg (fun W => W.frozen? ⟨w.heap.size + 1, 0, none⟩) hW2.symm; have cc2_1_1 := congrArg (fun W => W.cell? ⟨w.heap.size + 1, 1, none⟩) hW2.symm; have cf2_1_1 := congrArg (fun W => W.frozen? ⟨w.heap.size + 1, 1, none⟩) hW2.symm; have cc2_1_2 := congrArg (fun W => W.cell? ⟨w.heap.size + 1, 2, none⟩) hW2.symm; have cf2_1_2 := congrArg (fun W => W.frozen? ⟨w.heap.size + 1, 2, none⟩) hW2.symm; have cc2_1_3 := congrArg (fun W => W.cell? ⟨w.heap.size + 1, 3, none⟩) hW2.symm; have cf2_1_3 := congrArg (fun W => W.frozen? ⟨w.heap.size + 1, 3, none⟩) hW2.symm; have cc2_2_0 := congrArg (fun W => W.cell? ⟨w.heap.size + 1 + 1, 0, none⟩) hW2.symm; have cf2_2_0 := congrArg (fun W => W.frozen? ⟨w.heap.size + 1 + 1, 0, none⟩) hW2.symm; have cc2_2_1 := congrArg (fun W => W.cell? ⟨w.heap.size + 1 + 1, 1, none⟩) hW2.symm; have cf2_2_1 := congrArg (fun W => W.frozen? ⟨w.heap.size + 1 + 1, 1, none⟩) hW2.symm; have cc2_2_2 := congrArg (fun W => W.cell? ⟨w.heap.size + 1 + 1, 2, none⟩) hW2.symm; have cf2_2_2 := congrArg (fun W => W.frozen? ⟨w.heap.size + 1 + 1, 2, none⟩) hW2.symm; have cc2_2_3 := congrArg (fun W => W.cell? ⟨w.heap.size + 1 + 1, 3, none⟩) hW2.symm; have cf2_2_3 := congrArg (fun W => W.frozen? ⟨w.heap.size + 1 + 1, 3, none⟩) hW2.symm; clear hW2; simp [go_sem, *] at cc2_0_0; simp [go_sem, *] at cf2_0_0; simp [go_sem, *] at cc2_0_1; simp [go_sem, *] at cf2_0_1; simp [go_sem, *] at cc2_0_2; simp [go_sem, *] at cf2_0_2; simp [go_sem, *] at cc2_0_3; simp [go_sem, *] at cf2_0_3; simp [go_sem, *] at cc2_1_0; simp [go_sem, *] at cf2_1_0; simp [go_sem, *] at cc2_1_1; simp [go_sem, *] at cf2_1_1; simp [go_sem, *] at cc2_1_2; simp [go_sem, *] at cf2_1_2; simp [go_sem, *] at cc2_1_3; simp [go_sem, *] at cf2_1_3; simp [go_sem, *] at cc2_2_0; simp [go_sem, *] at cf2_2_0; simp [go_sem, *] at cc2_2_1; simp [go_sem, *] at cf2_2_1; simp [go_sem, *] at cc2_2_2; simp [go_sem, *] at cf2_2_2; simp [go_sem, *] at cc2_2_3; simp [go_sem, *] at cf2_2_3; (try have hw2_0 : w.heap.size < w2.heap.size := by omega); (try have hw2_1 : w.heap.size + 1 < w2.heap.size := by omega); (try have hw2_2 : w.heap.size + 1 + 1 < w2.heap.size := by omega); (try have hw2_3 : w.heap.size + 1 + 1 + 1 < w2.heap.size := by omega); clear hS2; (try clear hb1); (try clear hz1); (try clear hB1); (try clear cc1_0_0); (try clear cf1_0_0); (try clear cc1_0_1); (try clear cf1_0_1); (try clear cc1_0_2); (try clear cf1_0_2); (try clear cc1_0_3); (try clear cf1_0_3); (try clear cc1_1_0); (try clear cf1_1_0); (try clear cc1_1_1); (try clear cf1_1_1); (try clear cc1_1_2); (try clear cf1_1_2); (try clear cc1_1_3); (try clear cf1_1_3); (try clear cc1_2_0); (try clear cf1_2_0); (try clear cc1_2_1); (try clear cf1_2_1); (try clear cc1_2_2); (try clear cf1_2_2); (try clear cc1_2_3); (try clear cf1_2_3); (try clear hy1_0); (try clear hx1_0); (try clear hw1_0); (try clear hy1_1); (try clear hx1_1); (try clear hw1_1); (try clear hy1_2); (try clear hx1_2); (try clear hw1_2); (try clear hy1_3); (try clear hx1_3); (try clear hw1_3))
 (refine wp_region_ext (by kernel_rfl) (by kernel_rfl) ?_; (repeat (go_big_quiet_step (first | (go_at_call 147; with_reducible exact Calls.ext_same (next_any _ _))))); refine wpQuiet_nil ?_; rintro w3 ⟨x3, hx3⟩; have hb3 := x3.b; rw [← hx3] at hb3; clear hx3 x3; obtain ⟨hc3, hf3⟩ := bcell hb3; (try simp only [qD, qE, qF] at hc3 hf3); have hz3 := hb3.size; (try simp at hz3); (try have hy3_0 : w.heap.size < w3.heap.size := by omega); (try have hy3_1 : w.heap.size + 1 < w3.heap.size := by omega); (try have hy3_2 : w.heap.size + 2 < w3.heap.size := by omega); (try have hy3_3 : w.heap.size + 3 < w3.heap.size := by omega); (try have hx3_0 : w.heap.size ≤ w3.heap.size := by omega); (try have hx3_1 : w.heap.size + 1 ≤ w3.heap.size := by omega); (try have hx3_2 : w.heap.size + 2 ≤ w3.heap.size := by omega))
 go_wp2_with (go_at_call 146; (with_reducible refine (noneV_any _).mono ?_); rintro e w4 ⟨rfl, hb4⟩; obtain ⟨hc4, hf4⟩ := bcell hb4; (try simp only [qD, qE, qF] at hc4 hf4); have hz4 := hb4.size; (try simp at hz4); (try have hy4_0 : w.heap.size < w4.heap.size := by omega); (try have hy4_1 : w.heap.size + 1 < w4.heap.size := by omega); (try have hy4_2 : w.heap.size + 2 < w4.heap.size := by omega); (try have hy4_3 : w.heap.size + 3 < w4.heap.size := by omega); (try have hx4_0 : w.heap.size ≤ w4.heap.size := by omega); (try have hx4_1 : w.heap.size + 1 ≤ w4.heap.size := by omega); (try have hx4_2 : w.heap.size + 2 ≤ w4.heap.size := by omega))
 exact bodyPost_ret (v := .tuple #[.agg #[.float .f64 0, .float .f64 0, .bool true, .bool true], .bool false]) (by simp [results, Tryz.results119, go_sem, *]) rfl ⟨rfl, by (repeat (first | with_reducible exact Below.refl _ _ | ((with_reducible refine Below.alloc1 ?_ ?_ _); (· first | omega | (simp; done) | (simp; omega))) | (with_reducible refine Below.drew ?_) | (with_reducible refine below_drewN' ?_ _) | ((with_reducible refine Below.setCell1 ?_ ?_ _); (· first | omega | (simp; done) | (simp; omega))) | ((with_reducible refine Below.after (by assumption) ?_ ?_); (· first | omega | (simp; done) | (simp; omega)))))⟩

set_option maxRecDepth 100000 in
theorem join_ssC (lo hi lo' hi' : Nat) (a b a' b' : Bool) (w : World) (hl : lo < 2 ^ 64) (hh : hi < 2 ^ 64) (hl' : lo' < 2 ^ 64) (hh' : hi' < 2 ^ 64) (l h : Key) (hr : Hid (canonS lo hi a b = some (l, h))) (l' h' : Key) (hr' : Hid (canonS lo' hi' a' b' = some (l', h'))) (F1 : flt (knext h).bits l'.bits = false) (F2 : flt (knext h').bits l.bits = false) :
  Calls Tryz.prog 119 #[.agg #[.float .f64 lo, .float .f64 hi, .bool a, .bool b], .agg #[.float .f64 lo', .float .f64 hi', .bool a', .bool b']] w (Ret (.tuple #[.agg #[.float .f64 (kLeast l l').bits, .float .f64 (kMost h h').bits, .bool false, .bool false], .bool true]) w) := by
 go_enter Tryz.func119, Tryz.ntmps119
 go_wp2_with fail
 (refine wp_region_ext_tail 4 (by kernel_rfl) (by kernel_rfl) (by kernel_rfl) ?_; simp only [List.take_succ_cons, List.take_zero, List.drop_succ_cons, List.drop_zero]; (repeat (go_big_quiet_step (first | (go_at_call 116; with_reducible exact Calls.ext_of (canon_isS lo hi a b l h _ hl hh hr)) | (go_at_call 116; with_reducible exact Calls.ext_of (canon_isS lo' hi' a' b' l' h' _ hl' hh' hr'))))); refine wpQuiet_nil ?_; rintro w1 ⟨x1, hx1⟩; have hb1 := x1.b; rw [← hx1] at hb1; clear hx1 x1; obtain ⟨hc1, hf1⟩ := bcell hb1; (try simp only [qD, qE, qF] at hc1 hf1); have hz1 := hb1.size; (try simp at hz1); (try have hy1_0 : w.heap.size < w1.heap.size := by omega); (try have hy1_1 : w.heap.size + 1 < w1.heap.size := by omega); (try have hy1_2 : w.heap.size + 2 < w1.heap.size := by omega); (try have hy1_3 : w.heap.size + 3 < w1.heap.size := by omega); (try have hx1_0 : w.heap.size ≤ w1.heap.size := by omega); (try have hx1_1 : w.heap.size + 1 ≤ w1.heap.size := by omega); (try have hx1_2 : w.heap.size + 2 ≤ w1.heap.size := by omega))
 (have cc1_0_0 := hc1 (w.heap.size) 0 (by first | assumption | (simp; done) | (simp; omega)); have cf1_0_0 := hf1 (w.heap.size) 0 (by first | assumption | (simp; done) | (simp; omega)); have cc1_0_1 := hc1 (w.heap.size) 1 (by first | assumption | (simp; done) | (simp; omega)); have cf1_0_1 := hf1 (w.heap.size) 1 (by first | assumption | (simp; done) | (simp; omega)); have cc1_0_2 := hc1 (w.heap.size) 2 (by first | assumption | (simp; done) | (simp; omega)); have cf1_0_2 := hf1 (w.heap.size) 2 (by first | assumption | (simp; done) | (simp; omega)); have cc1_0_3 := hc1 (w.heap.size) 3 (by first | assumption | (simp; done) | (simp; omega)); have cf1_0_3 := hf1 (w.heap.size) 3 (by first | assumption | (simp; done) | (simp; omega)); have cc1_1_0 := hc1 (w.heap.size + 1) 0 (by first | assumption | (simp; done) | (simp; omega)); have cf1_1_0 := hf1 (w.heap.size + 1) 0 (by first | assumption | (simp; done) | (simp; omega)); have cc1_1_1 := hc1 (w.heap.size + 1) 1 (by first | assumption | (simp; done) | (simp; omega)); have cf1_1_1 := hf1 (w.heap.size + 1) 1 (by first | assumption | (simp; done) | (simp; omega)); have cc1_1_2 := hc1 (w.heap.size + 1) 2 (by first | assumption | (simp; done) | (simp; omega)); have cf1_1_2 := hf1 (w.heap.size + 1) 2 (by first | assumption | (simp; done) | (simp; omega)); have cc1_1_3 := hc1 (w.heap.size + 1) 3 (by first | assumption | (simp; done) | (simp; omega)); have cf1_1_3 := hf1 (w.heap.size + 1) 3 (by first | assumption | (simp; done) | (simp; omega)); have cc1_2_0 := hc1 (w.heap.size + 1 + 1) 0 (by first | assumption | (simp; done) | (simp; omega)); have cf1_2_0 := hf1 (w.heap.size + 1 + 1) 0 (by first | assumption | (simp; done) | (simp; omega)); have cc1_2_1 := hc1 (w.heap.size + 1 + 1) 1 (by first | assumption | (simp; done) | (simp; omega)); have cf1_2_1 := hf1 (w.heap.size + 1 + 1) 1 (by first | assumption | (simp; done) | (simp; omega)); have cc1_2_2 := hc1 (w.heap.size + 1 + 1) 2 (by first | assumption | (simp; done) | (simp; omega)); have cf1_2_2 := hf1 (w.heap.size + 1 + 1) 2 (by first | assumption | (simp; done) | (simp; omega)); have cc1_2_3 := hc1 (w.heap.size + 1 + 1) 3 (by first | assumption | (simp; done) | (simp; omega)); have cf1_2_3 := hf1 (w.heap.size + 1 + 1) 3 (by first | assumption | (simp; done) | (simp; omega)); clear hc1 hf1; simp [go_sem] at cc1_0_0 cf1_0_0 cc1_0_1 cf1_0_1 cc1_0_2 cf1_0_2 cc1_0_3 cf1_0_3 cc1_1_0 cf1_1_0 cc1_1_1 cf1_1_1 cc1_1_2 cf1_1_2 cc1_1_3 cf1_1_3 cc1_2_0 cf1_2_0 cc1_2_1 cf1_2_1 cc1_2_2 cf1_2_2 cc1_2_3 cf1_2_3)
 go_wp2_with fail
 (generalize hW2 : World.setCell _ _ _ = w2; have hB2 : Below w.heap.size w w2 := (by rw [← hW2]; (repeat (first | with_reducible exact Below.refl _ _ | ((with_reducible refine Below.alloc1 ?_ ?_ _); (· first | omega | (simp; done) | (simp; omega))) | (with_reducible refine Below.drew ?_) | (with_reducible refine below_drewN' ?_ _) | ((with_reducible refine Below.setCell1 ?_ ?_ _); (· first | omega | (simp; done) | (simp; omega))) | ((with_reducible refine Below.after (by assumption) ?_ ?_); (· first | omega | (simp; done) | (simp; omega)))))); have hS2 := congrArg (fun W => W.heap.size) hW2.symm; simp [go_sem] at hS2; have cc2_0_0 := congrArg (fun W => W.cell? ⟨w.heap.size, 0, none⟩) hW2.symm; have cf2_0_0 := congrArg (fun W => W.frozen? ⟨w.heap.size, 0, none⟩) hW2.symm; have cc2_0_1 := congrArg (fun W => W.cell? ⟨w.heap.size, 1, none⟩) hW2.symm; have cf2_0_1 := congrArg (fun W => W.frozen? ⟨w.heap.size, 1, none⟩) hW2.symm; have cc2_0_2 := congrArg (fun W => W.cell? ⟨w.heap.size, 2, none⟩) hW2.symm; have cf2_0_2 := congrArg (fun W => W.frozen? ⟨w.heap.size, 2, none⟩) hW2.symm; have cc2_0_3 := congrArg (fun W => W.cell? ⟨w.heap.size, 3, none⟩) hW2.symm; have cf2_0_3 := congrArg (fun W => W.frozen? ⟨w.heap.size, 3, none⟩) hW2.symm; have cc2_1_0 := congrArg (fun W => W.cell? ⟨w.heap.size + 1, 0, none⟩) hW2.symm; have cf2_1_0 := congrArg (fun W => W.frozen? ⟨w.heap.size + 1, 0, none⟩) hW2.symm; have cc2_1_1 := congrArg (fun W => W.cell? ⟨w.heap.size + 1, 1, none⟩) hW2.symm; have cf2_1_1 := congrArg (fun W => W.frozen? ⟨w.heap.size + 1, 1, none⟩) hW2.symm; have cc2_1_2 := congrArg (fun W => W.cell? ⟨w.heap.size + 1, 2, none⟩) hW2.symm; have cf2_1_2 := congrArg (fun W => W.frozen? ⟨w.heap.size + 1, 2, none⟩) hW2.symm; have cc2_1_3 := congrArg (fun W => W.cell? ⟨w.heap.size + 1, 3, none⟩) hW2.symm; have cf2_1_3 := congrArg (fun W => W.frozen? ⟨w.heap.size + 1, 3, none⟩) hW2.symm; have cc2_2_0 := congrArg (fun W => W.cell? ⟨w.heap.size + 1 + 1, 0, none⟩) hW2.symm; have cf2_2_0 := congrArg (fun W => W.frozen? ⟨w.heap.size + 1 + 1, 0, none⟩) hW2.symm; have cc2_2_1 := congrArg (fun W => W.cell? ⟨w.heap.size + 1 + 1, 1, none⟩) hW2.symm; have cf2_2_1 := congrArg (fun W => W.frozen? ⟨w.heap.size + 1 + 1, 1, none⟩) hW2.symm; have cc2_2_2 := congrArg (fun W => W.cell? ⟨w.heap.size + 1 + 1, 2, none⟩) hW2.symm; have cf2_2_2 := congrArg (fun W => W.frozen? ⟨w.heap.size + 1 + 1, 2, none⟩) hW2.symm; have cc2_2_3 := congrArg (fun W => W.cell? ⟨w.heap.size + 1 + 1, 3, none⟩) hW2.symm; have cf2_2_3 := congrArg (fun W => W.frozen? ⟨w.heap.size + 1 + 1, 3, none⟩) hW2.symm; clear hW2; simp [go_sem, *] at cc2_0_0; simp [go_sem, *] at cf2_0_0; simp [go_sem, *] at cc2_0_1; simp [go_sem, *] at cf2_0_1; simp [go_sem, *] at cc2_0_2; simp [go_sem, *] at cf2_0_2; simp [go_sem, *] at cc2_0_3; simp [go_sem, *] at cf2_0_3; simp [go_sem, *] at cc2_1_0; simp [go_sem, *] at cf2_1_0; simp [go_sem, *] at cc2_1_1; simp [go_sem, *] at cf2_1_1; simp [go_sem, *] at cc2_1_2; simp [go_sem, *] at cf2_1_2; simp [go_sem, *] at cc2_1_3; simp [go_sem, *] at cf2_1_3; simp [go_sem, *] at cc2_2_0; simp [go_sem, *] at cf2_2_0; simp [go_sem, *] at cc2_2_1; simp [go_sem, *] at cf2_2_1; simp [go_sem, *] at cc2_2_2; simp [go_sem, *] at cf2_2_2; simp [go_sem, *] at cc2_2_3; simp [go_sem, *] at cf2_2_3; (try have hw2_0 : w.heap.size < w2.heap.size := by omega); (try have hw2_1 : w.heap.size + 1 < w2.heap.size := by omega); (try have hw2_2 : w.heap.size + 1 + 1 < w2.heap.size := by omega); (try have hw2_3 : w.heap.size + 1 + 1 + 1 < w2.heap.size := by omega); clear hS2; (try clear hb1); (try clear hz1); (try clear hB1); (try clear cc1_0_0); (try clear cf1_0_0); (try clear cc1_0_1); (try clear cf1_0_1); (try clear cc1_0_2); (try clear cf1_0_2); (try clear cc1_0_3); (try clear cf1_0_3); (try clear cc1_1_0); (try clear cf1_1_0); (try clear cc1_1_1); (try clear cf1_1_1); (try clear cc1_1_2); (try clear cf1_1_2); (try clear cc1_1_3); (try clear cf1_1_3); (try clear cc1_2_0); (try clear cf1_2_0); (try clear cc1_2_1); (try clear cf1_2_1); (try clear cc1_2_2); (try clear cf1_2_2); (try clear cc1_2_3); (try clear cf1_2_3); (try clear hy1_0); (try clear hx1_0); (try clear hw1_0); (try clear hy1_1); (try clear hx1_1); (try clear hw1_1); (try clear hy1_2); (try clear hx1_2); (try clear hw1_2); (try clear hy1_3); (try clear hx1_3); (try clear hw1_3))
 (refine wp_region_ext (by kernel_rfl) (by kernel_rfl) ?_; (repeat (go_big_quiet_step (first | (go_at_call 147; with_reducible exact Calls.ext_same (next_any _ _))))); refine wpQuiet_nil ?_; rintro w3 ⟨x3, hx3⟩; have hb3 := x3.b; rw [← hx3] at hb3; clear hx3 x3; obtain ⟨hc3, hf3⟩ := bcell hb3; (try simp only [qD, qE, qF] at hc3 hf3); have hz3 := hb3.size; (try simp at hz3); (try have hy3_0 : w.heap.size < w3.heap.size := by omega); (try have hy3_1 : w.heap.size + 1 < w3.heap.size := by omega); (try have hy3_2 : w.heap.size + 2 < w3.heap.size := by omega); (try have hy3_3 : w.heap.size + 3 < w3.heap.size := by omega); (try have hx3_0 : w.heap.size ≤ w3.heap.size := by omega); (try have hx3_1 : w.heap.size + 1 ≤ w3.heap.size := by omega); (try have hx3_2 : w.heap.size + 2 ≤ w3.heap.size := by omega))
 go_wp2_with fail
 refine wp_region_notes [Note.val (.pointer (some ⟨w.heap.size, 0, none⟩)), Note.val (.float .f64 l.bits), Note.val (.pointer (some ⟨w.heap.size + 1, 0, none⟩)), Note.val (.float .f64 l'.bits), Note.slc 2 2 [.float .f64 l.bits, .float .f64 l'.bits], Note.val (.float .f64 (kLeast l l').bits), Note.val (.pointer (some ⟨w.heap.size, 1, none⟩)), Note.val (.float .f64 h.bits), Note.val (.pointer (some ⟨w.heap.size + 1, 1, none⟩)), Note.val (.float .f64 h'.bits), Note.slc 2 2 [.float .f64 h.bits, .float .f64 h'.bits], Note.val (.float .f64 (kMost h h').bits), Note.val (.agg #[.float .f64 (kLeast l l').bits, .float .f64 (kMost h h').bits, .bool false, .bool false])] rfl (by kernel_rfl) (by kernel_rfl) ?_ ?_
 ·simp only [List.length_cons, List.length_nil, Nat.reduceAdd, List.take_succ_cons, List.take_zero, StepsN, List.nil_append, List.cons_append]
  refine ⟨?_, ?_, ?_, ?_, ?_, ?_, ?_, ?_, ?_, ?_, ?_, ?_, ?_, trivial⟩
  ·intro u w4 hb4 hd
   obtain ⟨hc4, hf4⟩ := bcell hb4
   (try simp only [qD, qE, qF] at hc4 hf4)
   have hz4 := hb4.size
   (try simp at hz4)
   (try have hy4_0 : w.heap.size < w4.heap.size := by omega)
   (try have hy4_1 : w.heap.size + 1 < w4.heap.size := by omega)
   (try have hy4_2 : w.heap.size + 2 < w4.heap.size := by omega)
   (try have hy4_3 : w.heap.size + 3 < w4.heap.size := by omega)
   (try have hx4_0 : w.heap.size ≤ w4.heap.size := by omega)
   (try have hx4_1 : w.heap.size + 1 ≤ w4.heap.size := by omega)
   (try have hx4_2 : w.heap.size + 2 ≤ w4.heap.size := by omega)
   (try (simp [Region.binds, Note.phi, cellsAre] at hd))
   revert hd
   (try simp only [putsFrom, Act.put, qA, qB, qC, Nat.zero_add, Nat.reduceAdd])
   ((try simp only [forall_exists_index, and_imp]); intros)
   clear u
   go_wp2_with (first | (go_at_call 152; (with_reducible refine (most_two h h' _ _ _ (by assumption) (by assumption)).mono ?_); rintro e wy ⟨rfl, rfl⟩) | (go_at_call 151; (with_reducible refine (least_two l l' _ _ _ (by assumption) (by assumption)).mono ?_); rintro e wy ⟨rfl, rfl⟩))
   exact ⟨rfl, by (repeat (first | with_reducible exact Below.refl _ _ | ((with_reducible refine Below.alloc1 ?_ ?_ _); (· first | omega | (simp; done) | (simp; omega))) | (with_reducible refine Below.drew ?_) | (with_reducible refine below_drewN' ?_ _) | ((with_reducible refine Below.setCell1 ?_ ?_ _); (· first | omega | (simp; done) | (simp; omega))) | ((with_reducible refine Below.after (by assumption) ?_ ?_); (· first | omega | (simp; done) | (simp; omega))))), rfl⟩
  ·intro u w4 hb4 hd
   obtain ⟨hc4, hf4⟩ := bcell hb4
   (try simp only [qD, qE, qF] at hc4 hf4)
   have hz4 := hb4.size
   (try simp at hz4)
   (try have hy4_0 : w.heap.size < w4.heap.size := by omega)
   (try have hy4_1 : w.heap.size + 1 < w4.heap.size := by omega)
   (try have hy4_2 : w.heap.size + 2 < w4.heap.size := by omega)
   (try have hy4_3 : w.heap.size + 3 < w4.heap.size := by omega)
   (try have hx4_0 : w.heap.size ≤ w4.heap.size := by omega)
   (try have hx4_1 : w.heap.size + 1 ≤ w4.heap.size := by omega)
   (try have hx4_2 : w.heap.size + 2 ≤ w4.heap.size := by omega)
   (try (simp [Region.binds, Note.phi, cellsAre] at hd))
   revert hd
   (try simp only [putsFrom, Act.put, qA, qB, qC, Nat.zero_add, Nat.reduceAdd])
   generalize u 0 = u0
   ((try simp only [forall_exists_index, and_imp]); intros)
   (try subst u0)
   clear u
   go_wp2_with (first | (go_at_call 152; (with_reducible refine (most_two h h' _ _ _ (by assumption) (by assumption)).mono ?_); rintro e wy ⟨rfl, rfl⟩) | (go_at_call 151; (with_reducible refine (least_two l l' _ _ _ (by assumption) (by assumption)).mono ?_); rintro e wy ⟨rfl, rfl⟩))
   exact ⟨rfl, by (repeat (first | with_reducible exact Below.refl _ _ | ((with_reducible refine Below.alloc1 ?_ ?_ _); (· first | omega | (simp; done) | (simp; omega))) | (with_reducible refine Below.drew ?_) | (with_reducible refine below_drewN' ?_ _) | ((with_reducible refine Below.setCell1 ?_ ?_ _); (· first | omega | (simp; done) | (simp; omega))) | ((with_reducible refine Below.after (by assumption) ?_ ?_); (· first | omega | (simp; done) | (simp; omega))))), rfl⟩
  ·intro u w4 hb4 hd
   obtain ⟨hc4, hf4⟩ := bcell hb4
   (try simp only [qD, qE, qF] at hc4 hf4)
   have hz4 := hb4.size
   (try simp at hz4)
   (try have hy4_0 : w.heap.size < w4.heap.size := by omega)
   (try have hy4_1 : w.heap.size + 1 < w4.heap.size := by omega)
   (try have hy4_2 : w.heap.size + 2 < w4.heap.size := by omega)
   (try have hy4_3 : w.heap.size + 3 < w4.heap.size := by omega)
   (try have hx4_0 : w.heap.size ≤ w4.heap.size := by omega)
   (try have hx4_1 : w.heap.size + 1 ≤ w4.heap.size := by omega)
   (try have hx4_2 : w.heap.size + 2 ≤ w4.heap.size := by omega)
   (try (simp [Region.binds, Note.phi, cellsAre] at hd))
   revert hd
   (try simp only [putsFrom, Act.put, qA, qB, qC, Nat.zero_add, Nat.reduceAdd])
   generalize u 0 = u0
   generalize u 1 = u1
   ((try simp only [forall_exists_index, and_imp]); intros)
   (try subst u0)
   (try subst u1)
   clear u
   go_wp2_with (first | (go_at_call 152; (with_reducible refine (most_two h h' _ _ _ (by assumption) (by assumption)).mono ?_); rintro e wy ⟨rfl, rfl⟩) | (go_at_call 151; (with_reducible refine (least_two l l' _ _ _ (by assumption) (by assumption)).mono ?_); rintro e wy ⟨rfl, rfl⟩))
   exact ⟨rfl, by (repeat (first | with_reducible exact Below.refl _ _ | ((with_reducible refine Below.alloc1 ?_ ?_ _); (· first | omega | (simp; done) | (simp; omega))) | (with_reducible refine Below.drew ?_) | (with_reducible refine below_drewN' ?_ _) | ((with_reducible refine Below.setCell1 ?_ ?_ _); (· first | omega | (simp; done) | (simp; omega))) | ((with_reducible refine Below.after (by assumption) ?_ ?_); (· first | omega | (simp; done) | (simp; omega))))), rfl⟩
  ·intro u w4 hb4 hd
   obtain ⟨hc4, hf4⟩ := bcell hb4
   (try simp only [qD, qE, qF] at hc4 hf4)
   have hz4 := hb4.size
   (try simp at hz4)
   (try have hy4_0 : w.heap.size < w4.heap.size := by omega)
   (try have hy4_1 : w.heap.size + 1 < w4.heap.size := by omega)
   (try have hy4_2 : w.heap.size + 2 < w4.heap.size := by omega)
   (try have hy4_3 : w.heap.size + 3 < w4.heap.size := by omega)
   (try have hx4_0 : w.heap.size ≤ w4.heap.size := by omega)
   (try have hx4_1 : w.heap.size + 1 ≤ w4.heap.size := by omega)
   (try have hx4_2 : w.heap.size + 2 ≤ w4.heap.size := by omega)
   (try (simp [Region.binds, Note.phi, cellsAre] at hd))
   revert hd
   (try simp only [putsFrom, Act.put, qA, qB, qC, Nat.zero_add, Nat.reduceAdd])
   generalize u 0 = u0
   generalize u 1 = u1
   generalize u 2 = u2
   ((try simp only [forall_exists_index, and_imp]); intros)
   (try subst u0)
   (try subst u1)
   (try subst u2)
   clear u
   go_wp2_with (first | (go_at_call 152; (with_reducible refine (most_two h h' _ _ _ (by assumption) (by assumption)).mono ?_); rintro e wy ⟨rfl, rfl⟩) | (go_at_call 151; (with_reducible refine (least_two l l' _ _ _ (by assumption) (by assumption)).mono ?_); rintro e wy ⟨rfl, rfl⟩))
   exact ⟨rfl, by (repeat (first | with_reducible exact Below.refl _ _ | ((with_reducible refine Below.alloc1 ?_ ?_ _); (· first | omega | (simp; done) | (simp; omega))) | (with_reducible refine Below.drew ?_) | (with_reducible refine below_drewN' ?_ _) | ((with_reducible refine Below.setCell1 ?_ ?_ _); (· first | omega | (simp; done) | (simp; omega))) | ((with_reducible refine Below.after (by assumption) ?_ ?_); (· first | omega | (simp; done) | (simp; omega))))), rfl⟩
  ·intro u w4 hb4 hd
   obtain ⟨hc4, hf4⟩ := bcell hb4
   (try simp only [qD, qE, qF] at hc4 hf4)
   have hz4 := hb4.size
   (try simp at hz4)
   (try have hy4_0 : w.heap.size < w4.heap.size := by omega)
   (try have hy4_1 : w.heap.size + 1 < w4.heap.size := by omega)
   (try have hy4_2 : w.heap.size + 2 < w4.heap.size := by omega)
   (try have hy4_3 : w.heap.size + 3 < w4.heap.size := by omega)
   (try have hx4_0 : w.heap.size ≤ w4.heap.size := by omega)
   (try have hx4_1 : w.heap.size + 1 ≤ w4.heap.size := by omega)
   (try have hx4_2 : w.heap.size + 2 ≤ w4.heap.size := by omega)
   (try (simp [Region.binds, Note.phi, cellsAre] at hd))
   revert hd
   (try simp only [putsFrom, Act.put, qA, qB, qC, Nat.zero_add, Nat.reduceAdd])
   generalize u 0 = u0
   generalize u 1 = u1
   generalize u 2 = u2
   generalize u 3 = u3
   ((try simp only [forall_exists_index, and_imp]); intros)
   (try subst u0)
   (try subst u1)
   (try subst u2)
   (try subst u3)
   clear u
   go_wp2_with (first | (go_at_call 152; (with_reducible refine (most_two h h' _ _ _ (by assumption) (by assumption)).mono ?_); rintro e wy ⟨rfl, rfl⟩) | (go_at_call 151; (with_reducible refine (least_two l l' _ _ _ (by assumption) (by assumption)).mono ?_); rintro e wy ⟨rfl, rfl⟩))
   exact ⟨rfl, by (repeat (first | with_reducible exact Below.refl _ _ | ((with_reducible refine Below.alloc1 ?_ ?_ _); (· first | omega | (simp; done) | (simp; omega))) | (with_reducible refine Below.drew ?_) | (with_reducible refine below_drewN' ?_ _) | ((with_reducible refine Below.setCell1 ?_ ?_ _); (· first | omega | (simp; done) | (simp; omega))) | ((with_reducible refine Below.after (by assumption) ?_ ?_); (· first | omega | (simp; done) | (simp; omega))))), w4.heap.size, rfl, Nat.le_refl _, by simp, by simp [cellsAre, go_sem]⟩
  ·intro u w4 hb4 hd
   obtain ⟨hc4, hf4⟩ := bcell hb4
   (try simp only [qD, qE, qF] at hc4 hf4)
   have hz4 := hb4.size
   (try simp at hz4)
   (try have hy4_0 : w.heap.size < w4.heap.size := by omega)
   (try have hy4_1 : w.heap.size + 1 < w4.heap.size := by omega)
   (try have hy4_2 : w.heap.size + 2 < w4.heap.size := by omega)
   (try have hy4_3 : w.heap.size + 3 < w4.heap.size := by omega)
   (try have hx4_0 : w.heap.size ≤ w4.heap.size := by omega)
   (try have hx4_1 : w.heap.size + 1 ≤ w4.heap.size := by omega)
   (try have hx4_2 : w.heap.size + 2 ≤ w4.heap.size := by omega)
   (try (simp [Region.binds, Note.phi, cellsAre] at hd))
   revert hd
   (try simp only [putsFrom, Act.put, qA, qB, qC, Nat.zero_add, Nat.reduceAdd])
   generalize u 0 = u0
   generalize u 1 = u1
   generalize u 2 = u2
   generalize u 3 = u3
   generalize u 4 = u4
   ((try simp only [forall_exists_index, and_imp]); intros)
   (try subst u0)
   (try subst u1)
   (try subst u2)
   (try subst u3)
   (try subst u4)
   clear u
   go_wp2_with (first | (go_at_call 152; (with_reducible refine (most_two h h' _ _ _ (by assumption) (by assumption)).mono ?_); rintro e wy ⟨rfl, rfl⟩) | (go_at_call 151; (with_reducible refine (least_two l l' _ _ _ (by assumption) (by assumption)).mono ?_); rintro e wy ⟨rfl, rfl⟩))
   exact ⟨rfl, by (repeat (first | with_reducible exact Below.refl _ _ | ((with_reducible refine Below.alloc1 ?_ ?_ _); (· first | omega | (simp; done) | (simp; omega))) | (with_reducible refine Below.drew ?_) | (with_reducible refine below_drewN' ?_ _) | ((with_reducible refine Below.setCell1 ?_ ?_ _); (· first | omega | (simp; done) | (simp; omega))) | ((with_reducible refine Below.after (by assumption) ?_ ?_); (· first | omega | (simp; done) | (simp; omega))))), rfl⟩
  ·intro u w4 hb4 hd
   obtain ⟨hc4, hf4⟩ := bcell hb4
   (try simp only [qD, qE, qF] at hc4 hf4)
   have hz4 := hb4.size
   (try simp at hz4)
   (try have hy4_0 : w.heap.size < w4.heap.size := by omega)
   (try have hy4_1 : w.heap.size + 1 < w4.heap.size := by omega)
   (try have hy4_2 : w.heap.size + 2 < w4.heap.size := by omega)
   (try have hy4_3 : w.heap.size + 3 < w4.heap.size := by omega)
   (try have hx4_0 : w.heap.size ≤ w4.heap.size := by omega)
   (try have hx4_1 : w.heap.size + 1 ≤ w4.heap.size := by omega)
   (try have hx4_2 : w.heap.size + 2 ≤ w4.heap.size := by omega)
   (try (simp [Region.binds, Note.phi, cellsAre] at hd))
   revert hd
   (try simp only [putsFrom, Act.put, qA, qB, qC, Nat.zero_add, Nat.reduceAdd])
   generalize u 0 = u0
   generalize u 1 = u1
   generalize u 2 = u2
   generalize u 3 = u3
   generalize u 4 = u4
   generalize u 5 = u5
   ((try simp only [forall_exists_index, and_imp]); intros)
   (try subst u0)
   (try subst u1)
   (try subst u2)
   (try subst u3)
   (try subst u4)
   (try subst u5)
   clear u
   go_wp2_with (first | (go_at_call 152; (with_reducible refine (most_two h h' _ _ _ (by assumption) (by assumption)).mono ?_); rintro e wy ⟨rfl, rfl⟩) | (go_at_call 151; (with_reducible refine (least_two l l' _ _ _ (by assumption) (by assumption)).mono ?_); rintro e wy ⟨rfl, rfl⟩))
   exact ⟨rfl, by (repeat (first | with_reducible exact Below.refl _ _ | ((with_reducible refine Below.alloc1 ?_ ?_ _); (· first | omega | (simp; done) | (simp; omega))) | (with_reducible refine Below.drew ?_) | (with_reducible refine below_drewN' ?_ _) | ((with_reducible refine Below.setCell1 ?_ ?_ _); (· first | omega | (simp; done) | (simp; omega))) | ((with_reducible refine Below.after (by assumption) ?_ ?_); (· first | omega | (simp; done) | (simp; omega))))), rfl⟩
  ·intro u w4 hb4 hd
   obtain ⟨hc4, hf4⟩ := bcell hb4
   (try simp only [qD, qE, qF] at hc4 hf4)
   have hz4 := hb4.size
   (try simp at hz4)
   (try have hy4_0 : w.heap.size < w4.heap.size := by omega)
   (try have hy4_1 : w.heap.size + 1 < w4.heap.size := by omega)
   (try have hy4_2 : w.heap.size + 2 < w4.heap.size := by omega)
   (try have hy4_3 : w.heap.size + 3 < w4.heap.size := by omega)
   (try have hx4_0 : w.heap.size ≤ w4.heap.size := by omega)
   (try have hx4_1 : w.heap.size + 1 ≤ w4.heap.size := by omega)
   (try have hx4_2 : w.heap.size + 2 ≤ w4.heap.size := by omega)
   (try (simp [Region.binds, Note.phi, cellsAre] at hd))
   revert hd
   (try simp only [putsFrom, Act.put, qA, qB, qC, Nat.zero_add, Nat.reduceAdd])
   generalize u 0 = u0
   generalize u 1 = u1
   generalize u 2 = u2
   generalize u 3 = u3
   generalize u 4 = u4
   generalize u 5 = u5
   generalize u 6 = u6
   ((try simp only [forall_exists_index, and_imp]); intros)
   (try subst u0)
   (try subst u1)
   (try subst u2)
   (try subst u3)
   (try subst u4)
   (try subst u5)
   (try subst u6)
   clear u
   go_wp2_with (first | (go_at_call 152; (with_reducible refine (most_two h h' _ _ _ (by assumption) (by assumption)).mono ?_); rintro e wy ⟨rfl, rfl⟩) | (go_at_call 151; (with_reducible refine (least_two l l' _ _ _ (by assumption) (by assumption)).mono ?_); rintro e wy ⟨rfl, rfl⟩))
   exact ⟨rfl, by (repeat (first | with_reducible exact Below.refl _ _ | ((with_reducible refine Below.alloc1 ?_ ?_ _); (· first | omega | (simp; done) | (simp; omega))) | (with_reducible refine Below.drew ?_) | (with_reducible refine below_drewN' ?_ _) | ((with_reducible refine Below.setCell1 ?_ ?_ _); (· first | omega | (simp; done) | (simp; omega))) | ((with_reducible refine Below.after (by assumption) ?_ ?_); (· first | omega | (simp; done) | (simp; omega))))), rfl⟩
  ·intro u w4 hb4 hd
   obtain ⟨hc4, hf4⟩ := bcell hb4
   (try simp only [qD, qE, qF] at hc4 hf4)
   have hz4 := hb4.size
   (try simp at hz4)
   (try have hy4_0 : w.heap.size < w4.heap.size := by omega)
   (try have hy4_1 : w.heap.size + 1 < w4.heap.size := by omega)
   (try have hy4_2 : w.heap.size + 2 < w4.heap.size := by omega)
   (try have hy4_3 : w.heap.size + 3 < w4.heap.size := by omega)
   (try have hx4_0 : w.heap.size ≤ w4.heap.size := by omega)
   (try have hx4_1 : w.heap.size + 1 ≤ w4.heap.size := by omega)
   (try have hx4_2 : w.heap.size + 2 ≤ w4.heap.size := by omega)
   (try (simp [Region.binds, Note.phi, cellsAre] at hd))
   revert hd
   (try simp only [putsFrom, Act.put, qA, qB, qC, Nat.zero_add, Nat.reduceAdd])
   generalize u 0 = u0
   generalize u 1 = u1
   generalize u 2 = u2
   generalize u 3 = u3
   generalize u 4 = u4
   generalize u 5 = u5
   generalize u 6 = u6
   generalize u 7 = u7
   ((try simp only [forall_exists_index, and_imp]); intros)
   (try subst u0)
   (try subst u1)
   (try subst u2)
   (try subst u3)
   (try subst u4)
   (try subst u5)
   (try subst u6)
   (try subst u7)
   clear u
   go_wp2_with (first | (go_at_call 152; (with_reducible refine (most_two h h' _ _ _ (by assumption) (by assumption)).mono ?_); rintro e wy ⟨rfl, rfl⟩) | (go_at_call 151; (with_reducible refine (least_two l l' _ _ _ (by assumption) (by assumption)).mono ?_); rintro e wy ⟨rfl, rfl⟩))
   exact ⟨rfl, by (repeat (first | with_reducible exact Below.refl _ _ | ((with_reducible refine Below.alloc1 ?_ ?_ _); (· first | omega | (simp; done) | (simp; omega))) | (with_reducible refine Below.drew ?_) | (with_reducible refine below_drewN' ?_ _) | ((with_reducible refine Below.setCell1 ?_ ?_ _); (· first | omega | (simp; done) | (simp; omega))) | ((with_reducible refine Below.after (by assumption) ?_ ?_); (· first | omega | (simp; done) | (simp; omega))))), rfl⟩
  ·intro u w4 hb4 hd
   obtain ⟨hc4, hf4⟩ := bcell hb4
   (try simp only [qD, qE, qF] at hc4 hf4)
   have hz4 := hb4.size
   (try simp at hz4)
   (try have hy4_0 : w.heap.size < w4.heap.size := by omega)
   (try have hy4_1 : w.heap.size + 1 < w4.heap.size := by omega)
   (try have hy4_2 : w.heap.size + 2 < w4.heap.size := by omega)
   (try have hy4_3 : w.heap.size + 3 < w4.heap.size := by omega)
   (try have hx4_0 : w.heap.size ≤ w4.heap.size := by omega)
   (try have hx4_1 : w.heap.size + 1 ≤ w4.heap.size := by omega)
   (try have hx4_2 : w.heap.size + 2 ≤ w4.heap.size := by omega)
   (try (simp [Region.binds, Note.phi, cellsAre] at hd))
   revert hd
   (try simp only [putsFrom, Act.put, qA, qB, qC, Nat.zero_add, Nat.reduceAdd])
   generalize u 0 = u0
   generalize u 1 = u1
   generalize u 2 = u2
   generalize u 3 = u3
   generalize u 4 = u4
   generalize u 5 = u5
   generalize u 6 = u6
   generalize u 7 = u7
   generalize u 8 = u8
   ((try simp only [forall_exists_index, and_imp]); intros)
   (try subst u0)
   (try subst u1)
   (try subst u2)
   (try subst u3)
   (try subst u4)
   (try subst u5)
   (try subst u6)
   (try subst u7)
   (try subst u8)
   clear u
   go_wp2_with (first | (go_at_call 152; (with_reducible refine (most_two h h' _ _ _ (by assumption) (by assumption)).mono ?_); rintro e wy ⟨rfl, rfl⟩) | (go_at_call 151; (with_reducible refine (least_two l l' _ _ _ (by assumption) (by assumption)).mono ?_); rintro e wy ⟨rfl, rfl⟩))
   exact ⟨rfl, by (repeat (first | with_reducible exact Below.refl _ _ | ((with_reducible refine Below.alloc1 ?_ ?_ _); (· first | omega | (simp; done) | (simp; omega))) | (with_reducible refine Below.drew ?_) | (with_reducible refine below_drewN' ?_ _) | ((with_reducible refine Below.setCell1 ?_ ?_ _); (· first | omega | (simp; done) | (simp; omega))) | ((with_reducible refine Below.after (by assumption) ?_ ?_); (· first | omega | (simp; done) | (simp; omega))))), rfl⟩
  ·intro u w4 hb4 hd
   obtain ⟨hc4, hf4⟩ := bcell hb4
   (try simp only [qD, qE, qF] at hc4 hf4)
   have hz4 := hb4.size
   (try simp at hz4)
   (try have hy4_0 : w.heap.size < w4.heap.size := by omega)
   (try have hy4_1 : w.heap.size + 1 < w4.heap.size := by omega)
   (try have hy4_2 : w.heap.size + 2 < w4.heap.size := by omega)
   (try have hy4_3 : w.heap.size + 3 < w4.heap.size := by omega)
   (try have hx4_0 : w.heap.size ≤ w4.heap.size := by omega)
   (try have hx4_1 : w.heap.size + 1 ≤ w4.heap.size := by omega)
   (try have hx4_2 : w.heap.size + 2 ≤ w4.heap.size := by omega)
   (try (simp [Region.binds, Note.phi, cellsAre] at hd))
   revert hd
   (try simp only [putsFrom, Act.put, qA, qB, qC, Nat.zero_add, Nat.reduceAdd])
   generalize u 0 = u0
   generalize u 1 = u1
   generalize u 2 = u2
   generalize u 3 = u3
   generalize u 4 = u4
   generalize u 5 = u5
   generalize u 6 = u6
   generalize u 7 = u7
   generalize u 8 = u8
   generalize u 9 = u9
   ((try simp only [forall_exists_index, and_imp]); intros)
   (try subst u0)
   (try subst u1)
   (try subst u2)
   (try subst u3)
   (try subst u4)
   (try subst u5)
   (try subst u6)
   (try subst u7)
   (try subst u8)
   (try subst u9)
   clear u
   go_wp2_with (first | (go_at_call 152; (with_reducible refine (most_two h h' _ _ _ (by assumption) (by assumption)).mono ?_); rintro e wy ⟨rfl, rfl⟩) | (go_at_call 151; (with_reducible refine (least_two l l' _ _ _ (by assumption) (by assumption)).mono ?_); rintro e wy ⟨rfl, rfl⟩))
   exact ⟨rfl, by (repeat (first | with_reducible exact Below.refl _ _ | ((with_reducible refine Below.alloc1 ?_ ?_ _); (· first | omega | (simp; done) | (simp; omega))) | (with_reducible refine Below.drew ?_) | (with_reducible refine below_drewN' ?_ _) | ((with_reducible refine Below.setCell1 ?_ ?_ _); (· first | omega | (simp; done) | (simp; omega))) | ((with_reducible refine Below.after (by assumption) ?_ ?_); (· first | omega | (simp; done) | (simp; omega))))), w4.heap.size, rfl, Nat.le_refl _, by simp, by simp [cellsAre, go_sem]⟩
  ·intro u w4 hb4 hd
   obtain ⟨hc4, hf4⟩ := bcell hb4
   (try simp only [qD, qE, qF] at hc4 hf4)
   have hz4 := hb4.size
   (try simp at hz4)
   (try have hy4_0 : w.heap.size < w4.heap.size := by omega)
   (try have hy4_1 : w.heap.size + 1 < w4.heap.size := by omega)
   (try have hy4_2 : w.heap.size + 2 < w4.heap.size := by omega)
   (try have hy4_3 : w.heap.size + 3 < w4.heap.size := by omega)
   (try have hx4_0 : w.heap.size ≤ w4.heap.size := by omega)
   (try have hx4_1 : w.heap.size + 1 ≤ w4.heap.size := by omega)
   (try have hx4_2 : w.heap.size + 2 ≤ w4.heap.size := by omega)
   (try (simp [Region.binds, Note.phi, cellsAre] at hd))
   revert hd
   (try simp only [putsFrom, Act.put, qA, qB, qC, Nat.zero_add, Nat.reduceAdd])
   generalize u 0 = u0
   generalize u 1 = u1
   generalize u 2 = u2
   generalize u 3 = u3
   generalize u 4 = u4
   generalize u 5 = u5
   generalize u 6 = u6
   generalize u 7 = u7
   generalize u 8 = u8
   generalize u 9 = u9
   generalize u 10 = u10
   ((try simp only [forall_exists_index, and_imp]); intros)
   (try subst u0)
   (try subst u1)
   (try subst u2)
   (try subst u3)
   (try subst u4)
   (try subst u5)
   (try subst u6)
   (try subst u7)
   (try subst u8)
   (try subst u9)
   (try subst u10)
   clear u
   go_wp2_with (first | (go_at_call 152; (with_reducible refine (most_two h h' _ _ _ (by assumption) (by assumption)).mono ?_); rintro e wy ⟨rfl, rfl⟩) | (go_at_call 151; (with_reducible refine (least_two l l' _ _ _ (by assumption) (by assumption)).mono ?_); rintro e wy ⟨rfl, rfl⟩))
   exact ⟨rfl, by (repeat (first | with_reducible exact Below.refl _ _ | ((with_reducible refine Below.alloc1 ?_ ?_ _); (· first | omega | (simp; done) | (simp; omega))) | (with_reducible refine Below.drew ?_) | (with_reducible refine below_drewN' ?_ _) | ((with_reducible refine Below.setCell1 ?_ ?_ _); (· first | omega | (simp; done) | (simp; omega))) | ((with_reducible refine Below.after (by assumption) ?_ ?_); (· first | omega | (simp; done) | (simp; omega))))), rfl⟩
  ·intro u w4 hb4 hd
   obtain ⟨hc4, hf4⟩ := bcell hb4
   (try simp only [qD, qE, qF] at hc4 hf4)
   have hz4 := hb4.size
   (try simp at hz4)
   (try have hy4_0 : w.heap.size < w4.heap.size := by omega)
   (try have hy4_1 : w.heap.size + 1 < w4.heap.size := by omega)
   (try have hy4_2 : w.heap.size + 2 < w4.heap.size := by omega)
   (try have hy4_3 : w.heap.size + 3 < w4.heap.size := by omega)
   (try have hx4_0 : w.heap.size ≤ w4.heap.size := by omega)
   (try have hx4_1 : w.heap.size + 1 ≤ w4.heap.size := by omega)
   (try have hx4_2 : w.heap.size + 2 ≤ w4.heap.size := by omega)
   (try (simp [Region.binds, Note.phi, cellsAre] at hd))
   revert hd
   (try simp only [putsFrom, Act.put, qA, qB, qC, Nat.zero_add, Nat.reduceAdd])
   generalize u 0 = u0
   generalize u 1 = u1
   generalize u 2 = u2
   generalize u 3 = u3
   generalize u 4 = u4
   generalize u 5 = u5
   generalize u 6 = u6
   generalize u 7 = u7
   generalize u 8 = u8
   generalize u 9 = u9
   generalize u 10 = u10
   generalize u 11 = u11
   ((try simp only [forall_exists_index, and_imp]); intros)
   (try subst u0)
   (try subst u1)
   (try subst u2)
   (try subst u3)
   (try subst u4)
   (try subst u5)
   (try subst u6)
   (try subst u7)
   (try subst u8)
   (try subst u9)
   (try subst u10)
   (try subst u11)
   clear u
   go_wp2_with (first | (go_at_call 152; (with_reducible refine (most_two h h' _ _ _ (by assumption) (by assumption)).mono ?_); rintro e wy ⟨rfl, rfl⟩) | (go_at_call 151; (with_reducible refine (least_two l l' _ _ _ (by assumption) (by assumption)).mono ?_); rintro e wy ⟨rfl, rfl⟩))
   exact ⟨rfl, by (repeat (first | with_reducible exact Below.refl _ _ | ((with_reducible refine Below.alloc1 ?_ ?_ _); (· first | omega | (simp; done) | (simp; omega))) | (with_reducible refine Below.drew ?_) | (with_reducible refine below_drewN' ?_ _) | ((with_reducible refine Below.setCell1 ?_ ?_ _); (· first | omega | (simp; done) | (simp; omega))) | ((with_reducible refine Below.after (by assumption) ?_ ?_); (· first | omega | (simp; done) | (simp; omega))))), rfl⟩
 ·intro u w4 hb4 hph hap
  obtain ⟨hc4, hf4⟩ := bcell hb4
  (try simp only [qD, qE, qF] at hc4 hf4)
  have hz4 := hb4.size
  (try simp at hz4)
  (try have hy4_0 : w.heap.size < w4.heap.size := by omega)
  (try have hy4_1 : w.heap.size + 1 < w4.heap.size := by omega)
  (try have hy4_2 : w.heap.size + 2 < w4.heap.size := by omega)
  (try have hy4_3 : w.heap.size + 3 < w4.heap.size := by omega)
  (try have hx4_0 : w.heap.size ≤ w4.heap.size := by omega)
  (try have hx4_1 : w.heap.size + 1 ≤ w4.heap.size := by omega)
  (try have hx4_2 : w.heap.size + 2 ≤ w4.heap.size := by omega)
  have hp0 := hph 0 (by simp)
  have hp1 := hph 1 (by simp)
  have hp2 := hph 2 (by simp)
  have hp3 := hph 3 (by simp)
  have hp4 := hph 4 (by simp)
  have hp5 := hph 5 (by simp)
  have hp6 := hph 6 (by simp)
  have hp7 := hph 7 (by simp)
  have hp8 := hph 8 (by simp)
  have hp9 := hph 9 (by simp)
  have hp10 := hph 10 (by simp)
  have hp11 := hph 11 (by simp)
  have hp12 := hph 12 (by simp)
  have ha4_10 := hap 4 10 (by simp) (by simp) (by decide) rfl rfl
  have ha10_4 := hap 10 4 (by simp) (by simp) (by decide) rfl rfl
  clear hph hap
  simp only [List.length_cons, List.length_nil, List.take_succ_cons, List.take_zero, List.drop_succ_cons, List.drop_zero, putsFrom, Act.put, qA, qB, qC, Nat.zero_add, Nat.reduceAdd]
  generalize u 0 = u0 at *
  generalize u 1 = u1 at *
  generalize u 2 = u2 at *
  generalize u 3 = u3 at *
  generalize u 4 = u4 at *
  generalize u 5 = u5 at *
  generalize u 6 = u6 at *
  generalize u 7 = u7 at *
  generalize u 8 = u8 at *
  generalize u 9 = u9 at *
  generalize u 10 = u10 at *
  generalize u 11 = u11 at *
  generalize u 12 = u12 at *
  clear u
  cases hp0
  cases hp1
  cases hp2
  cases hp3
  obtain ⟨B4, rfl, hl4, hg4, hs4⟩ := hp4
  (try simp only [cellsAre, and_true] at hs4)
  cases hp5
  cases hp6
  cases hp7
  cases hp8
  cases hp9
  obtain ⟨B10, rfl, hl10, hg10, hs10⟩ := hp10
  (try simp only [cellsAre, and_true] at hs10)
  cases hp11
  cases hp12
  simp only [blkOf, ne_eq, Option.some.injEq] at ha4_10
  simp only [blkOf, ne_eq, Option.some.injEq] at ha10_4
  go_wp2_with fail
  exact bodyPost_ret (v := .tuple #[.agg #[.float .f64 (kLeast l l').bits, .float .f64 (kMost h h').bits, .bool false, .bool false], .bool true]) (by simp [results, Tryz.results119, go_sem, *]) rfl ⟨rfl, by (repeat (first | with_reducible exact Below.refl _ _ | ((with_reducible refine Below.alloc1 ?_ ?_ _); (· first | omega | (simp; done) | (simp; omega))) | (with_reducible refine Below.drew ?_) | (with_reducible refine below_drewN' ?_ _) | ((with_reducible refine Below.setCell1 ?_ ?_ _); (· first | omega | (simp; done) | (simp; omega))) | ((with_reducible refine Below.after (by assumption) ?_ ?_); (· first | omega | (simp; done) | (simp; omega)))))⟩

end Go.Proofs.YtekmadgacepdfaaGreat
namespace Go.Proofs.YtekmadgacepdfaaGreat
set_option linter.unusedVariables false
open Go.RowKit Fl

def joinR : Rg → Rg → Rg × Bool
 | none, r => (r, true)
 | some x, none => (some x, true)
 | some (l, h), some (l', h') => if flt (knext h).bits l'.bits = true then (none, false) else if flt (knext h').bits l.bits = true then (none, false) else (some (kLeast l l', kMost h h'), true)

theorem join_any (lo hi lo' hi' : Nat) (a b a' b' : Bool) (w : World) (hl : lo < 2 ^ 64) (hh : hi < 2 ^ 64) (hl' : lo' < 2 ^ 64) (hh' : hi' < 2 ^ 64) :
  Calls Tryz.prog 119 #[.agg #[.float .f64 lo, .float .f64 hi, .bool a, .bool b], .agg #[.float .f64 lo', .float .f64 hi', .bool a', .bool b']] w
   (Ret (.tuple #[spv (joinR (canonS lo hi a b) (canonS lo' hi' a' b')).1, .bool (joinR (canonS lo hi a b) (canonS lo' hi' a' b')).2]) w) := by
 rcases hr : canonS lo hi a b with _ | ⟨l, h⟩ <;> rcases hr' : canonS lo' hi' a' b' with _ | ⟨l', h'⟩
 ·exact join_nn lo hi lo' hi' a b a' b' w hl hh hl' hh' (hid hr) (hid hr')
 ·exact join_ns lo hi lo' hi' a b a' b' w hl hh hl' hh' (hid hr) l' h' (hid hr')
 ·exact join_sn lo hi lo' hi' a b a' b' w hl hh hl' hh' l h (hid hr) (hid hr')
 ·simp only [joinR]
  cases F1 : flt (knext h).bits l'.bits
  ·cases F2 : flt (knext h').bits l.bits
   ·exact join_ssC lo hi lo' hi' a b a' b' w hl hh hl' hh' l h (hid hr) l' h' (hid hr') F1 F2
   ·exact join_ssB lo hi lo' hi' a b a' b' w hl hh hl' hh' l h (hid hr) l' h' (hid hr') F1 F2
  ·exact join_ssA lo hi lo' hi' a b a' b' w hl hh hl' hh' l h (hid hr) l' h' (hid hr') F1

end Go.Proofs.YtekmadgacepdfaaGreat
namespace Go.Proofs.YtekmadgacepdfaaGreat
set_option linter.unusedVariables false
open Go.RowKit Fl

end Go.Proofs.YtekmadgacepdfaaGreat
namespace Go.Proofs.YtekmadgacepdfaaGreat
set_option linter.unusedVariables false
open Go.RowKit Fl

end Go.Proofs.YtekmadgacepdfaaGreat
namespace Go.Proofs.YtekmadgacepdfaaGreat
set_option linter.unusedVariables false
open Go.RowKit Fl

def rnext (k : Key) : Int := if isCode (kcode k + 1) = true then kcode k + 1 else kcode k + 2

theorem refNext_key (k : Key) (w : World) :
  Calls Tryz.prog 155 #[.int .u64 (kcode k)] w (Ret (.int .u64 (rnext k)) w) := by
 have b1 := kcode_lo k
 have b2 := kcode_hi k
 have W1 : IntKind.u64.wrap (kcode k + 1) = kcode k + 1 := by rw [IntKind.wrap_u64]; omega
 have W2 : IntKind.u64.wrap (kcode k + 2) = kcode k + 2 := by rw [IntKind.wrap_u64]; omega
 have g1 : 0 ≤ kcode k + 1 := by omega
 have g2 : kcode k + 1 ≤ 18446744073709551615 := by omega
 clear b1 b2
 cases c : isCode (kcode k + 1)
 ·have e : rnext k = kcode k + 2 := by simp [rnext, c]
  rw [e]
  clear e
  go_enter Tryz.func155, Tryz.ntmps155
  go_wp2_with (first | (go_at_call 133; (with_reducible refine (refIsCode_any _ g1 g2 _).mono ?_); rintro e w' ⟨rfl, rfl⟩))
  go_ret
  exact ⟨rfl, by exact below_auto⟩
 ·have e : rnext k = kcode k + 1 := by simp [rnext, c]
  rw [e]
  clear e
  go_enter Tryz.func155, Tryz.ntmps155
  go_wp2_with (first | (go_at_call 133; (with_reducible refine (refIsCode_any _ g1 g2 _).mono ?_); rintro e w' ⟨rfl, rfl⟩))
  go_ret
  exact ⟨rfl, by exact below_auto⟩

theorem refJoin_nn (w : World) :
  Calls Tryz.prog 127 #[.agg #[.int .u64 1, .int .u64 0], .agg #[.int .u64 1, .int .u64 0]] w (Ret (.tuple #[.agg #[.int .u64 1, .int .u64 0], .bool true]) w) := by
 go_enter Tryz.func127, Tryz.ntmps127
 go_wp2_with (first | (go_at_call 88; (with_reducible refine (refEmpty_none _).mono ?_); rintro e w1 ⟨rfl, hb1⟩; obtain ⟨hc1, hf1⟩ := bcell hb1; (try simp only [qD, qE, qF] at hc1 hf1); have hz1 := hb1.size; (try simp at hz1); (try have hy1_0 : w.heap.size < w1.heap.size := by omega); (try have hy1_1 : w.heap.size + 1 < w1.heap.size := by omega); (try have hy1_2 : w.heap.size + 2 < w1.heap.size := by omega); (try have hy1_3 : w.heap.size + 3 < w1.heap.size := by omega); (try have hx1_0 : w.heap.size ≤ w1.heap.size := by omega); (try have hx1_1 : w.heap.size + 1 ≤ w1.heap.size := by omega); (try have hx1_2 : w.heap.size + 2 ≤ w1.heap.size := by omega)))
 exact bodyPost_ret (v := .tuple #[.agg #[.int .u64 1, .int .u64 0], .bool true]) (by simp [results, Tryz.results127, go_sem, *]) rfl ⟨rfl, by exact below_auto⟩

theorem refJoin_ns (l' h' : Key) (H2 : Hid (l'.v ≤ h'.v)) (w : World) :
  Calls Tryz.prog 127 #[.agg #[.int .u64 1, .int .u64 0], .agg #[.int .u64 (kcode l'), .int .u64 (kcode h')]] w (Ret (.tuple #[.agg #[.int .u64 (kcode l'), .int .u64 (kcode h')], .bool true]) w) := by
 go_enter Tryz.func127, Tryz.ntmps127
 go_wp2_with (first | (go_at_call 88; (with_reducible refine (refEmpty_none _).mono ?_); rintro e w1 ⟨rfl, hb1⟩; obtain ⟨hc1, hf1⟩ := bcell hb1; (try simp only [qD, qE, qF] at hc1 hf1); have hz1 := hb1.size; (try simp at hz1); (try have hy1_0 : w.heap.size < w1.heap.size := by omega); (try have hy1_1 : w.heap.size + 1 < w1.heap.size := by omega); (try have hy1_2 : w.heap.size + 2 < w1.heap.size := by omega); (try have hy1_3 : w.heap.size + 3 < w1.heap.size := by omega); (try have hx1_0 : w.heap.size ≤ w1.heap.size := by omega); (try have hx1_1 : w.heap.size + 1 ≤ w1.heap.size := by omega); (try have hx1_2 : w.heap.size + 2 ≤ w1.heap.size := by omega)) | (go_at_call 88; (with_reducible refine (refEmpty_some l' h' H2 _).mono ?_); rintro e w3 ⟨rfl, hb3⟩; obtain ⟨hc3, hf3⟩ := bcell hb3; (try simp only [qD, qE, qF] at hc3 hf3); have hz3 := hb3.size; (try simp at hz3); (try have hy3_0 : w.heap.size < w3.heap.size := by omega); (try have hy3_1 : w.heap.size + 1 < w3.heap.size := by omega); (try have hy3_2 : w.heap.size + 2 < w3.heap.size := by omega); (try have hy3_3 : w.heap.size + 3 < w3.heap.size := by omega); (try have hx3_0 : w.heap.size ≤ w3.heap.size := by omega); (try have hx3_1 : w.heap.size + 1 ≤ w3.heap.size := by omega); (try have hx3_2 : w.heap.size + 2 ≤ w3.heap.size := by omega)))
 exact bodyPost_ret (v := .tuple #[.agg #[.int .u64 (kcode l'), .int .u64 (kcode h')], .bool true]) (by simp [results, Tryz.results127, go_sem, *]) rfl ⟨rfl, by exact below_auto⟩

theorem refJoin_sn (l h : Key) (H1 : Hid (l.v ≤ h.v)) (w : World) :
  Calls Tryz.prog 127 #[.agg #[.int .u64 (kcode l), .int .u64 (kcode h)], .agg #[.int .u64 1, .int .u64 0]] w (Ret (.tuple #[.agg #[.int .u64 (kcode l), .int .u64 (kcode h)], .bool true]) w) := by
 go_enter Tryz.func127, Tryz.ntmps127
 go_wp2_with (first | (go_at_call 88; (with_reducible refine (refEmpty_none _).mono ?_); rintro e w1 ⟨rfl, hb1⟩; obtain ⟨hc1, hf1⟩ := bcell hb1; (try simp only [qD, qE, qF] at hc1 hf1); have hz1 := hb1.size; (try simp at hz1); (try have hy1_0 : w.heap.size < w1.heap.size := by omega); (try have hy1_1 : w.heap.size + 1 < w1.heap.size := by omega); (try have hy1_2 : w.heap.size + 2 < w1.heap.size := by omega); (try have hy1_3 : w.heap.size + 3 < w1.heap.size := by omega); (try have hx1_0 : w.heap.size ≤ w1.heap.size := by omega); (try have hx1_1 : w.heap.size + 1 ≤ w1.heap.size := by omega); (try have hx1_2 : w.heap.size + 2 ≤ w1.heap.size := by omega)) | (go_at_call 88; (with_reducible refine (refEmpty_some l h H1 _).mono ?_); rintro e w2 ⟨rfl, hb2⟩; obtain ⟨hc2, hf2⟩ := bcell hb2; (try simp only [qD, qE, qF] at hc2 hf2); have hz2 := hb2.size; (try simp at hz2); (try have hy2_0 : w.heap.size < w2.heap.size := by omega); (try have hy2_1 : w.heap.size + 1 < w2.heap.size := by omega); (try have hy2_2 : w.heap.size + 2 < w2.heap.size := by omega); (try have hy2_3 : w.heap.size + 3 < w2.heap.size := by omega); (try have hx2_0 : w.heap.size ≤ w2.heap.size := by omega); (try have hx2_1 : w.heap.size + 1 ≤ w2.heap.size := by omega); (try have hx2_2 : w.heap.size + 2 ≤ w2.heap.size := by omega)))
 exact bodyPost_ret (v := .tuple #[.agg #[.int .u64 (kcode l), .int .u64 (kcode h)], .bool true]) (by simp [results, Tryz.results127, go_sem, *]) rfl ⟨rfl, by exact below_auto⟩

theorem refJoin_ssA (l h : Key) (H1 : Hid (l.v ≤ h.v)) (l' h' : Key) (H2 : Hid (l'.v ≤ h'.v)) (N1 : decide (rnext h < kcode l') = true) (w : World) :
  Calls Tryz.prog 127 #[.agg #[.int .u64 (kcode l), .int .u64 (kcode h)], .agg #[.int .u64 (kcode l'), .int .u64 (kcode h')]] w (Ret (.tuple #[.agg #[.int .u64 1, .int .u64 0], .bool false]) w) := by
 go_enter Tryz.func127, Tryz.ntmps127
 go_wp2_with (first | (go_at_call 88; (with_reducible refine (refEmpty_some l h H1 _).mono ?_); rintro e w2 ⟨rfl, hb2⟩; obtain ⟨hc2, hf2⟩ := bcell hb2; (try simp only [qD, qE, qF] at hc2 hf2); have hz2 := hb2.size; (try simp at hz2); (try have hy2_0 : w.heap.size < w2.heap.size := by omega); (try have hy2_1 : w.heap.size + 1 < w2.heap.size := by omega); (try have hy2_2 : w.heap.size + 2 < w2.heap.size := by omega); (try have hy2_3 : w.heap.size + 3 < w2.heap.size := by omega); (try have hx2_0 : w.heap.size ≤ w2.heap.size := by omega); (try have hx2_1 : w.heap.size + 1 ≤ w2.heap.size := by omega); (try have hx2_2 : w.heap.size + 2 ≤ w2.heap.size := by omega)) | (go_at_call 88; (with_reducible refine (refEmpty_some l' h' H2 _).mono ?_); rintro e w3 ⟨rfl, hb3⟩; obtain ⟨hc3, hf3⟩ := bcell hb3; (try simp only [qD, qE, qF] at hc3 hf3); have hz3 := hb3.size; (try simp at hz3); (try have hy3_0 : w.heap.size < w3.heap.size := by omega); (try have hy3_1 : w.heap.size + 1 < w3.heap.size := by omega); (try have hy3_2 : w.heap.size + 2 < w3.heap.size := by omega); (try have hy3_3 : w.heap.size + 3 < w3.heap.size := by omega); (try have hx3_0 : w.heap.size ≤ w3.heap.size := by omega); (try have hx3_1 : w.heap.size + 1 ≤ w3.heap.size := by omega); (try have hx3_2 : w.heap.size + 2 ≤ w3.heap.size := by omega)))
 (refine wp_region_ext (by kernel_rfl) (by kernel_rfl) ?_; (repeat (go_big_quiet_step (first | (go_at_call 155; with_reducible exact Calls.ext_of (refNext_key _ _))))); refine wpQuiet_nil ?_; rintro w4 ⟨x4, hx4⟩; have hb4 := x4.b; rw [← hx4] at hb4; clear hx4 x4; obtain ⟨hc4, hf4⟩ := bcell hb4; (try simp only [qD, qE, qF] at hc4 hf4); have hz4 := hb4.size; (try simp at hz4); (try have hy4_0 : w.heap.size < w4.heap.size := by omega); (try have hy4_1 : w.heap.size + 1 < w4.heap.size := by omega); (try have hy4_2 : w.heap.size + 2 < w4.heap.size := by omega); (try have hy4_3 : w.heap.size + 3 < w4.heap.size := by omega); (try have hx4_0 : w.heap.size ≤ w4.heap.size := by omega); (try have hx4_1 : w.heap.size + 1 ≤ w4.heap.size := by omega); (try have hx4_2 : w.heap.size + 2 ≤ w4.heap.size := by omega))
 (have cc4_0_0 := hc4 (w.heap.size) 0 (by first | assumption | (simp; done) | (simp; omega)); have cf4_0_0 := hf4 (w.heap.size) 0 (by first | assumption | (simp; done) | (simp; omega)); have cc4_0_1 := hc4 (w.heap.size) 1 (by first | assumption | (simp; done) | (simp; omega)); have cf4_0_1 := hf4 (w.heap.size) 1 (by first | assumption | (simp; done) | (simp; omega)); have cc4_1_0 := hc4 (w.heap.size + 1) 0 (by first | assumption | (simp; done) | (simp; omega)); have cf4_1_0 := hf4 (w.heap.size + 1) 0 (by first | assumption | (simp; done) | (simp; omega)); have cc4_1_1 := hc4 (w.heap.size + 1) 1 (by first | assumption | (simp; done) | (simp; omega)); have cf4_1_1 := hf4 (w.heap.size + 1) 1 (by first | assumption | (simp; done) | (simp; omega)); have cc4_2_0 := hc4 (w.heap.size + 1 + 1) 0 (by first | assumption | (simp; done) | (simp; omega)); have cf4_2_0 := hf4 (w.heap.size + 1 + 1) 0 (by first | assumption | (simp; done) | (simp; omega)); have cc4_2_1 := hc4 (w.heap.size + 1 + 1) 1 (by first | assumption | (simp; done) | (simp; omega)); have cf4_2_1 := hf4 (w.heap.size + 1 + 1) 1 (by first | assumption | (simp; done) | (simp; omega)); clear hc4 hf4; simp [go_sem, *] at cc4_0_0 cf4_0_0 cc4_0_1 cf4_0_1 cc4_1_0 cf4_1_0 cc4_1_1 cf4_1_1 cc4_2_0 cf4_2_0 cc4_2_1 cf4_2_1)
 go_wp2_with (first | (go_at_call 132; (with_reducible refine (refNone_any _).mono ?_); rintro e w5 ⟨rfl, hb5⟩; obtain ⟨hc5, hf5⟩ := bcell hb5; (try simp only [qD, qE, qF] at hc5 hf5); have hz5 := hb5.size; (try simp at hz5); (try have hy5_0 : w.heap.size < w5.heap.size := by omega); (try have hy5_1 : w.heap.size + 1 < w5.heap.size := by omega); (try have hy5_2 : w.heap.size + 2 < w5.heap.size := by omega); (try have hy5_3 : w.heap.size + 3 < w5.heap.size := by omega); (try have hx5_0 : w.heap.size ≤ w5.heap.size := by omega); (try have hx5_1 : w.heap.size + 1 ≤ w5.heap.size := by omega); (try have hx5_2 : w.heap.size + 2 ≤ w5.heap.size := by omega)))
 exact bodyPost_ret (v := .tuple #[.agg #[.int .u64 1, .int .u64 0], .bool false]) (by simp [results, Tryz.results127, go_sem, *]) rfl ⟨rfl, by exact below_auto⟩

theorem refJoin_ssB (l h : Key) (H1 : Hid (l.v ≤ h.v)) (l' h' : Key) (H2 : Hid (l'.v ≤ h'.v)) (N1 : decide (rnext h < kcode l') = false) (N2 : decide (rnext h' < kcode l) = true) (w : World) :
  Calls Tryz.prog 127 #[.agg #[.int .u64 (kcode l), .int .u64 (kcode h)], .agg #[.int .u64 (kcode l'), .int .u64 (kcode h')]] w (Ret (.tuple #[.agg #[.int .u64 1, .int .u64 0], .bool false]) w) := by
 go_enter Tryz.func127, Tryz.ntmps127
 go_wp2_with (first | (go_at_call 88; (with_reducible refine (refEmpty_some l h H1 _).mono ?_); rintro e w2 ⟨rfl, hb2⟩; obtain ⟨hc2, hf2⟩ := bcell hb2; (try simp only [qD, qE, qF] at hc2 hf2); have hz2 := hb2.size; (try simp at hz2); (try have hy2_0 : w.heap.size < w2.heap.size := by omega); (try have hy2_1 : w.heap.size + 1 < w2.heap.size := by omega); (try have hy2_2 : w.heap.size + 2 < w2.heap.size := by omega); (try have hy2_3 : w.heap.size + 3 < w2.heap.size := by omega); (try have hx2_0 : w.heap.size ≤ w2.heap.size := by omega); (try have hx2_1 : w.heap.size + 1 ≤ w2.heap.size := by omega); (try have hx2_2 : w.heap.size + 2 ≤ w2.heap.size := by omega)) | (go_at_call 88; (with_reducible refine (refEmpty_some l' h' H2 _).mono ?_); rintro e w3 ⟨rfl, hb3⟩; obtain ⟨hc3, hf3⟩ := bcell hb3; (try simp only [qD, qE, qF] at hc3 hf3); have hz3 := hb3.size; (try simp at hz3); (try have hy3_0 : w.heap.size < w3.heap.size := by omega); (try have hy3_1 : w.heap.size + 1 < w3.heap.size := by omega); (try have hy3_2 : w.heap.size + 2 < w3.heap.size := by omega); (try have hy3_3 : w.heap.size + 3 < w3.heap.size := by omega); (try have hx3_0 : w.heap.size ≤ w3.heap.size := by omega); (try have hx3_1 : w.heap.size + 1 ≤ w3.heap.size := by omega); (try have hx3_2 : w.heap.size + 2 ≤ w3.heap.size := by omega)))
 (refine wp_region_ext (by kernel_rfl) (by kernel_rfl) ?_; (repeat (go_big_quiet_step (first | (go_at_call 155; with_reducible exact Calls.ext_of (refNext_key _ _))))); refine wpQuiet_nil ?_; rintro w4 ⟨x4, hx4⟩; have hb4 := x4.b; rw [← hx4] at hb4; clear hx4 x4; obtain ⟨hc4, hf4⟩ := bcell hb4; (try simp only [qD, qE, qF] at hc4 hf4); have hz4 := hb4.size; (try simp at hz4); (try have hy4_0 : w.heap.size < w4.heap.size := by omega); (try have hy4_1 : w.heap.size + 1 < w4.heap.size := by omega); (try have hy4_2 : w.heap.size + 2 < w4.heap.size := by omega); (try have hy4_3 : w.heap.size + 3 < w4.heap.size := by omega); (try have hx4_0 : w.heap.size ≤ w4.heap.size := by omega); (try have hx4_1 : w.heap.size + 1 ≤ w4.heap.size := by omega); (try have hx4_2 : w.heap.size + 2 ≤ w4.heap.size := by omega))
 (have cc4_0_0 := hc4 (w.heap.size) 0 (by first | assumption | (simp; done) | (simp; omega)); have cf4_0_0 := hf4 (w.heap.size) 0 (by first | assumption | (simp; done) | (simp; omega)); have cc4_0_1 := hc4 (w.heap.size) 1 (by first | assumption | (simp; done) | (simp; omega)); have cf4_0_1 := hf4 (w.heap.size) 1 (by first | assumption | (simp; done) | (simp; omega)); have cc4_1_0 := hc4 (w.heap.size + 1) 0 (by first | assumption | (simp; done) | (simp; omega)); have cf4_1_0 := hf4 (w.heap.size + 1) 0 (by first | assumption | (simp; done) | (simp; omega)); have cc4_1_1 := hc4 (w.heap.size + 1) 1 (by first | assumption | (simp; done) | (simp; omega)); have cf4_1_1 := hf4 (w.heap.size + 1) 1 (by first | assumption | (simp; done) | (simp; omega)); have cc4_2_0 := hc4 (w.heap.size + 1 + 1) 0 (by first | assumption | (simp; done) | (simp; omega)); have cf4_2_0 := hf4 (w.heap.size + 1 + 1) 0 (by first | assumption | (simp; done) | (simp; omega)); have cc4_2_1 := hc4 (w.heap.size + 1 + 1) 1 (by first | assumption | (simp; done) | (simp; omega)); have cf4_2_1 := hf4 (w.heap.size + 1 + 1) 1 (by first | assumption | (simp; done) | (simp; omega)); clear hc4 hf4; simp [go_sem, *] at cc4_0_0 cf4_0_0 cc4_0_1 cf4_0_1 cc4_1_0 cf4_1_0 cc4_1_1 cf4_1_1 cc4_2_0 cf4_2_0 cc4_2_1 cf4_2_1)
 go_wp2_with (first | (go_at_call 132; (with_reducible refine (refNone_any _).mono ?_); rintro e w5 ⟨rfl, hb5⟩; obtain ⟨hc5, hf5⟩ := bcell hb5; (try simp only [qD, qE, qF] at hc5 hf5); have hz5 := hb5.size; (try simp at hz5); (try have hy5_0 : w.heap.size < w5.heap.size := by omega); (try have hy5_1 : w.heap.size + 1 < w5.heap.size := by omega); (try have hy5_2 : w.heap.size + 2 < w5.heap.size := by omega); (try have hy5_3 : w.heap.size + 3 < w5.heap.size := by omega); (try have hx5_0 : w.heap.size ≤ w5.heap.size := by omega); (try have hx5_1 : w.heap.size + 1 ≤ w5.heap.size := by omega); (try have hx5_2 : w.heap.size + 2 ≤ w5.heap.size := by omega)))
 exact bodyPost_ret (v := .tuple #[.agg #[.int .u64 1, .int .u64 0], .bool false]) (by simp [results, Tryz.results127, go_sem, *]) rfl ⟨rfl, by exact below_auto⟩

theorem refJoin_ssC11 (l h : Key) (H1 : Hid (l.v ≤ h.v)) (l' h' : Key) (H2 : Hid (l'.v ≤ h'.v)) (N1 : decide (rnext h < kcode l') = false) (N2 : decide (rnext h' < kcode l) = false) (T1 : decide (kcode l' < kcode l) = true) (T2 : decide (kcode h < kcode h') = true) (w : World) :
  Calls Tryz.prog 127 #[.agg #[.int .u64 (kcode l), .int .u64 (kcode h)], .agg #[.int .u64 (kcode l'), .int .u64 (kcode h')]] w (Ret (.tuple #[.agg #[.int .u64 (kcode l'), .int .u64 (kcode h')], .bool true]) w) := by
 go_enter Tryz.func127, Tryz.ntmps127
 go_wp2_with (first | (go_at_call 88; (with_reducible refine (refEmpty_some l h H1 _).mono ?_); rintro e w2 ⟨rfl, hb2⟩; obtain ⟨hc2, hf2⟩ := bcell hb2; (try simp only [qD, qE, qF] at hc2 hf2); have hz2 := hb2.size; (try simp at hz2); (try have hy2_0 : w.heap.size < w2.heap.size := by omega); (try have hy2_1 : w.heap.size + 1 < w2.heap.size := by omega); (try have hy2_2 : w.heap.size + 2 < w2.heap.size := by omega); (try have hy2_3 : w.heap.size + 3 < w2.heap.size := by omega); (try have hx2_0 : w.heap.size ≤ w2.heap.size := by omega); (try have hx2_1 : w.heap.size + 1 ≤ w2.heap.size := by omega); (try have hx2_2 : w.heap.size + 2 ≤ w2.heap.size := by omega)) | (go_at_call 88; (with_reducible refine (refEmpty_some l' h' H2 _).mono ?_); rintro e w3 ⟨rfl, hb3⟩; obtain ⟨hc3, hf3⟩ := bcell hb3; (try simp only [qD, qE, qF] at hc3 hf3); have hz3 := hb3.size; (try simp at hz3); (try have hy3_0 : w.heap.size < w3.heap.size := by omega); (try have hy3_1 : w.heap.size + 1 < w3.heap.size := by omega); (try have hy3_2 : w.heap.size + 2 < w3.heap.size := by omega); (try have hy3_3 : w.heap.size + 3 < w3.heap.size := by omega); (try have hx3_0 : w.heap.size ≤ w3.heap.size := by omega); (try have hx3_1 : w.heap.size + 1 ≤ w3.heap.size := by omega); (try have hx3_2 : w.heap.size + 2 ≤ w3.heap.size := by omega)))
 (refine wp_region_ext (by kernel_rfl) (by kernel_rfl) ?_; (repeat (go_big_quiet_step (first | (go_at_call 155; with_reducible exact Calls.ext_of (refNext_key _ _))))); refine wpQuiet_nil ?_; rintro w4 ⟨x4, hx4⟩; have hb4 := x4.b; rw [← hx4] at hb4; clear hx4 x4; obtain ⟨hc4, hf4⟩ := bcell hb4; (try simp only [qD, qE, qF] at hc4 hf4); have hz4 := hb4.size; (try simp at hz4); (try have hy4_0 : w.heap.size < w4.heap.size := by omega); (try have hy4_1 : w.heap.size + 1 < w4.heap.size := by omega); (try have hy4_2 : w.heap.size + 2 < w4.heap.size := by omega); (try have hy4_3 : w.heap.size + 3 < w4.heap.size := by omega); (try have hx4_0 : w.heap.size ≤ w4.heap.size := by omega); (try have hx4_1 : w.heap.size + 1 ≤ w4.heap.size := by omega); (try have hx4_2 : w.heap.size + 2 ≤ w4.heap.size := by omega))
 (have cc4_0_0 := hc4 (w.heap.size) 0 (by first | assumption | (simp; done) | (simp; omega)); have cf4_0_0 := hf4 (w.heap.size) 0 (by first | assumption | (simp; done) | (simp; omega)); have cc4_0_1 := hc4 (w.heap.size) 1 (by first | assumption | (simp; done) | (simp; omega)); have cf4_0_1 := hf4 (w.heap.size) 1 (by first | assumption | (simp; done) | (simp; omega)); have cc4_1_0 := hc4 (w.heap.size + 1) 0 (by first | assumption | (simp; done) | (simp; omega)); have cf4_1_0 := hf4 (w.heap.size + 1) 0 (by first | assumption | (simp; done) | (simp; omega)); have cc4_1_1 := hc4 (w.heap.size + 1) 1 (by first | assumption | (simp; done) | (simp; omega)); have cf4_1_1 := hf4 (w.heap.size + 1) 1 (by first | assumption | (simp; done) | (simp; omega)); have cc4_2_0 := hc4 (w.heap.size + 1 + 1) 0 (by first | assumption | (simp; done) | (simp; omega)); have cf4_2_0 := hf4 (w.heap.size + 1 + 1) 0 (by first | assumption | (simp; done) | (simp; omega)); have cc4_2_1 := hc4 (w.heap.size + 1 + 1) 1 (by first | assumption | (simp; done) | (simp; omega)); have cf4_2_1 := hf4 (w.heap.size + 1 + 1) 1 (by first | assumption | (simp; done) | (simp; omega)); clear hc4 hf4; simp [go_sem, *] at cc4_0_0 cf4_0_0 cc4_0_1 cf4_0_1 cc4_1_0 cf4_1_0 cc4_1_1 cf4_1_1 cc4_2_0 cf4_2_0 cc4_2_1 cf4_2_1)
 go_wp2_with (first | (go_at_call 132; (with_reducible refine (refNone_any _).mono ?_); rintro e w5 ⟨rfl, hb5⟩; obtain ⟨hc5, hf5⟩ := bcell hb5; (try simp only [qD, qE, qF] at hc5 hf5); have hz5 := hb5.size; (try simp at hz5); (try have hy5_0 : w.heap.size < w5.heap.size := by omega); (try have hy5_1 : w.heap.size + 1 < w5.heap.size := by omega); (try have hy5_2 : w.heap.size + 2 < w5.heap.size := by omega); (try have hy5_3 : w.heap.size + 3 < w5.heap.size := by omega); (try have hx5_0 : w.heap.size ≤ w5.heap.size := by omega); (try have hx5_1 : w.heap.size + 1 ≤ w5.heap.size := by omega); (try have hx5_2 : w.heap.size + 2 ≤ w5.heap.size := by omega)))
 exact bodyPost_ret (v := .tuple #[.agg #[.int .u64 (kcode l'), .int .u64 (kcode h')], .bool true]) (by simp [results, Tryz.results127, go_sem, *]) rfl ⟨rfl, by exact below_auto⟩

theorem refJoin_ssC10 (l h : Key) (H1 : Hid (l.v ≤ h.v)) (l' h' : Key) (H2 : Hid (l'.v ≤ h'.v)) (N1 : decide (rnext h < kcode l') = false) (N2 : decide (rnext h' < kcode l) = false) (T1 : decide (kcode l' < kcode l) = true) (T2 : decide (kcode h < kcode h') = false) (w : World) :
  Calls Tryz.prog 127 #[.agg #[.int .u64 (kcode l), .int .u64 (kcode h)], .agg #[.int .u64 (kcode l'), .int .u64 (kcode h')]] w (Ret (.tuple #[.agg #[.int .u64 (kcode l'), .int .u64 (kcode h)], .bool true]) w) := by
 go_enter Tryz.func127, Tryz.ntmps127
 go_wp2_with (first | (go_at_call 88; (with_reducible refine (refEmpty_some l h H1 _).mono ?_); rintro e w2 ⟨rfl, hb2⟩; obtain ⟨hc2, hf2⟩ := bcell hb2; (try simp only [qD, qE, qF] at hc2 hf2); have hz2 := hb2.size; (try simp at hz2); (try have hy2_0 : w.heap.size < w2.heap.size := by omega); (try have hy2_1 : w.heap.size + 1 < w2.heap.size := by omega); (try have hy2_2 : w.heap.size + 2 < w2.heap.size := by omega); (try have hy2_3 : w.heap.size + 3 < w2.heap.size := by omega); (try have hx2_0 : w.heap.size ≤ w2.heap.size := by omega); (try have hx2_1 : w.heap.size + 1 ≤ w2.heap.size := by omega); (try have hx2_2 : w.heap.size + 2 ≤ w2.heap.size := by omega)) | (go_at_call 88; (with_reducible refine (refEmpty_some l' h' H2 _).mono ?_); rintro e w3 ⟨rfl, hb3⟩; obtain ⟨hc3, hf3⟩ := bcell hb3; (try simp only [qD, qE, qF] at hc3 hf3); have hz3 := hb3.size; (try simp at hz3); (try have hy3_0 : w.heap.size < w3.heap.size := by omega); (try have hy3_1 : w.heap.size + 1 < w3.heap.size := by omega); (try have hy3_2 : w.heap.size + 2 < w3.heap.size := by omega); (try have hy3_3 : w.heap.size + 3 < w3.heap.size := by omega); (try have hx3_0 : w.heap.size ≤ w3.heap.size := by omega); (try have hx3_1 : w.heap.size + 1 ≤ w3.heap.size := by omega); (try have hx3_2 : w.heap.size + 2 ≤ w3.heap.size := by omega)))
 (refine wp_region_ext (by kernel_rfl) (by kernel_rfl) ?_; (repeat (go_big_quiet_step (first | (go_at_call 155; with_reducible exact Calls.ext_of (refNext_key _ _))))); refine wpQuiet_nil ?_; rintro w4 ⟨x4, hx4⟩; have hb4 := x4.b; rw [← hx4] at hb4; clear hx4 x4; obtain ⟨hc4, hf4⟩ := bcell hb4; (try simp only [qD, qE, qF] at hc4 hf4); have hz4 := hb4.size; (try simp at hz4); (try have hy4_0 : w.heap.size < w4.heap.size := by omega); (try have hy4_1 : w.heap.size + 1 < w4.heap.size := by omega); (try have hy4_2 : w.heap.size + 2 < w4.heap.size := by omega); (try have hy4_3 : w.heap.size + 3 < w4.heap.size := by omega); (try have hx4_0 : w.heap.size ≤ w4.heap.size := by omega); (try have hx4_1 : w.heap.size + 1 ≤ w4.heap.size := by omega); (try have hx4_2 : w.heap.size + 2 ≤ w4.heap.size := by omega))
 (have cc4_0_0 := hc4 (w.heap.size) 0 (by first | assumption | (simp; done) | (simp; omega)); have cf4_0_0 := hf4 (w.heap.size) 0 (by first | assumption | (simp; done) | (simp; omega)); have cc4_0_1 := hc4 (w.heap.size) 1 (by first | assumption | (simp; done) | (simp; omega)); have cf4_0_1 := hf4 (w.heap.size) 1 (by first | assumption | (simp; done) | (simp; omega)); have cc4_1_0 := hc4 (w.heap.size + 1) 0 (by first | assumption | (simp; done) | (simp; omega)); have cf4_1_0 := hf4 (w.heap.size + 1) 0 (by first | assumption | (simp; done) | (simp; omega)); have cc4_1_1 := hc4 (w.heap.size + 1) 1 (by first | assumption | (simp; done) | (simp; omega)); have cf4_1_1 := hf4 (w.heap.size + 1) 1 (by first | assumption | (simp; done) | (simp; omega)); have cc4_2_0 := hc4 (w.heap.size + 1 + 1) 0 (by first | assumption | (simp; done) | (simp; omega)); have cf4_2_0 := hf4 (w.heap.size + 1 + 1) 0 (by first | assumption | (simp; done) | (simp; omega)); have cc4_2_1 := hc4 (w.heap.size + 1 + 1) 1 (by first | assumption | (simp; done) | (simp; omega)); have cf4_2_1 := hf4 (w.heap.size + 1 + 1) 1 (by first | assumption | (simp; done) | (simp; omega)); clear hc4 hf4; simp [go_sem, *] at cc4_0_0 cf4_0_0 cc4_0_1 cf4_0_1 cc4_1_0 cf4_1_0 cc4_1_1 cf4_1_1 cc4_2_0 cf4_2_0 cc4_2_1 cf4_2_1)
 go_wp2_with (first | (go_at_call 132; (with_reducible refine (refNone_any _).mono ?_); rintro e w5 ⟨rfl, hb5⟩; obtain ⟨hc5, hf5⟩ := bcell hb5; (try simp only [qD, qE, qF] at hc5 hf5); have hz5 := hb5.size; (try simp at hz5); (try have hy5_0 : w.heap.size < w5.heap.size := by omega); (try have hy5_1 : w.heap.size + 1 < w5.heap.size := by omega); (try have hy5_2 : w.heap.size + 2 < w5.heap.size := by omega); (try have hy5_3 : w.heap.size + 3 < w5.heap.size := by omega); (try have hx5_0 : w.heap.size ≤ w5.heap.size := by omega); (try have hx5_1 : w.heap.size + 1 ≤ w5.heap.size := by omega); (try have hx5_2 : w.heap.size + 2 ≤ w5.heap.size := by omega)))
 exact bodyPost_ret (v := .tuple #[.agg #[.int .u64 (kcode l'), .int .u64 (kcode h)], .bool true]) (by simp [results, Tryz.results127, go_sem, *]) rfl ⟨rfl, by exact below_auto⟩

theorem refJoin_ssC01 (l h : Key) (H1 : Hid (l.v ≤ h.v)) (l' h' : Key) (H2 : Hid (l'.v ≤ h'.v)) (N1 : decide (rnext h < kcode l') = false) (N2 : decide (rnext h' < kcode l) = false) (T1 : decide (kcode l' < kcode l) = false) (T2 : decide (kcode h < kcode h') = true) (w : World) :
  Calls Tryz.prog 127 #[.agg #[.int .u64 (kcode l), .int .u64 (kcode h)], .agg #[.int .u64 (kcode l'), .int .u64 (kcode h')]] w (Ret (.tuple #[.agg #[.int .u64 (kcode l), .int .u64 (kcode h')], .bool true]) w) := by
 go_enter Tryz.func127, Tryz.ntmps127
 go_wp2_with (first | (go_at_call 88; (with_reducible refine (refEmpty_some l h H1 _).mono ?_); rintro e w2 ⟨rfl, hb2⟩; obtain ⟨hc2, hf2⟩ := bcell hb2; (try simp only [qD, qE, qF] at hc2 hf2); have hz2 := hb2.size; (try simp at hz2); (try have hy2_0 : w.heap.size < w2.heap.size := by omega); (try have hy2_1 : w.heap.size + 1 < w2.heap.size := by omega); (try have hy2_2 : w.heap.size + 2 < w2.heap.size := by omega); (try have hy2_3 : w.heap.size + 3 < w2.heap.size := by omega); (try have hx2_0 : w.heap.size ≤ w2.heap.size := by omega); (try have hx2_1 : w.heap.size + 1 ≤ w2.heap.size := by omega); (try have hx2_2 : w.heap.size + 2 ≤ w2.heap.size := by omega)) | (go_at_call 88; (with_reducible refine (refEmpty_some l' h' H2 _).mono ?_); rintro e w3 ⟨rfl, hb3⟩; obtain ⟨hc3, hf3⟩ := bcell hb3; (try simp only [qD, qE, qF] at hc3 hf3); have hz3 := hb3.size; (try simp at hz3); (try have hy3_0 : w.heap.size < w3.heap.size := by omega); (try have hy3_1 : w.heap.size + 1 < w3.heap.size := by omega); (try have hy3_2 : w.heap.size + 2 < w3.heap.size := by omega); (try have hy3_3 : w.heap.size + 3 < w3.heap.size := by omega); (try have hx3_0 : w.heap.size ≤ w3.heap.size := by omega); (try have hx3_1 : w.heap.size + 1 ≤ w3.heap.size := by omega); (try have hx3_2 : w.heap.size + 2 ≤ w3.heap.size := by omega)))
 (refine wp_region_ext (by kernel_rfl) (by kernel_rfl) ?_; (repeat (go_big_quiet_step (first | (go_at_call 155; with_reducible exact Calls.ext_of (refNext_key _ _))))); refine wpQuiet_nil ?_; rintro w4 ⟨x4, hx4⟩; have hb4 := x4.b; rw [← hx4] at hb4; clear hx4 x4; obtain ⟨hc4, hf4⟩ := bcell hb4; (try simp only [qD, qE, qF] at hc4 hf4); have hz4 := hb4.size; (try simp at hz4); (try have hy4_0 : w.heap.size < w4.heap.size := by omega); (try have hy4_1 : w.heap.size + 1 < w4.heap.size := by omega); (try have hy4_2 : w.heap.size + 2 < w4.heap.size := by omega); (try have hy4_3 : w.heap.size + 3 < w4.heap.size := by omega); (try have hx4_0 : w.heap.size ≤ w4.heap.size := by omega); (try have hx4_1 : w.heap.size + 1 ≤ w4.heap.size := by omega); (try have hx4_2 : w.heap.size + 2 ≤ w4.heap.size := by omega))
 (have cc4_0_0 := hc4 (w.heap.size) 0 (by first | assumption | (simp; done) | (simp; omega)); have cf4_0_0 := hf4 (w.heap.size) 0 (by first | assumption | (simp; done) | (simp; omega)); have cc4_0_1 := hc4 (w.heap.size) 1 (by first | assumption | (simp; done) | (simp; omega)); have cf4_0_1 := hf4 (w.heap.size) 1 (by first | assumption | (simp; done) | (simp; omega)); have cc4_1_0 := hc4 (w.heap.size + 1) 0 (by first | assumption | (simp; done) | (simp; omega)); have cf4_1_0 := hf4 (w.heap.size + 1) 0 (by first | assumption | (simp; done) | (simp; omega)); have cc4_1_1 := hc4 (w.heap.size + 1) 1 (by first | assumption | (simp; done) | (simp; omega)); have cf4_1_1 := hf4 (w.heap.size + 1) 1 (by first | assumption | (simp; done) | (simp; omega)); have cc4_2_0 := hc4 (w.heap.size + 1 + 1) 0 (by first | assumption | (simp; done) | (simp; omega)); have cf4_2_0 := hf4 (w.heap.size + 1 + 1) 0 (by first | assumption | (simp; done) | (simp; omega)); have cc4_2_1 := hc4 (w.heap.size + 1 + 1) 1 (by first | assumption | (simp; done) | (simp; omega)); have cf4_2_1 := hf4 (w.heap.size + 1 + 1) 1 (by first | assumption | (simp; done) | (simp; omega)); clear hc4 hf4; simp [go_sem, *] at cc4_0_0 cf4_0_0 cc4_0_1 cf4_0_1 cc4_1_0 cf4_1_0 cc4_1_1 cf4_1_1 cc4_2_0 cf4_2_0 cc4_2_1 cf4_2_1)
 go_wp2_with (first | (go_at_call 132; (with_reducible refine (refNone_any _).mono ?_); rintro e w5 ⟨rfl, hb5⟩; obtain ⟨hc5, hf5⟩ := bcell hb5; (try simp only [qD, qE, qF] at hc5 hf5); have hz5 := hb5.size; (try simp at hz5); (try have hy5_0 : w.heap.size < w5.heap.size := by omega); (try have hy5_1 : w.heap.size + 1 < w5.heap.size := by omega); (try have hy5_2 : w.heap.size + 2 < w5.heap.size := by omega); (try have hy5_3 : w.heap.size + 3 < w5.heap.size := by omega); (try have hx5_0 : w.heap.size ≤ w5.heap.size := by omega); (try have hx5_1 : w.heap.size + 1 ≤ w5.heap.size := by omega); (try have hx5_2 : w.heap.size + 2 ≤ w5.heap.size := by omega)))
 exact bodyPost_ret (v := .tuple #[.agg #[.int .u64 (kcode l), .int .u64 (kcode h')], .bool true]) (by simp [results, Tryz.results127, go_sem, *]) rfl ⟨rfl, by exact below_auto⟩

theorem refJoin_ssC00 (l h : Key) (H1 : Hid (l.v ≤ h.v)) (l' h' : Key) (H2 : Hid (l'.v ≤ h'.v)) (N1 : decide (rnext h < kcode l') = false) (N2 : decide (rnext h' < kcode l) = false) (T1 : decide (kcode l' < kcode l) = false) (T2 : decide (kcode h < kcode h') = false) (w : World) :
  Calls Tryz.prog 127 #[.agg #[.int .u64 (kcode l), .int .u64 (kcode h)], .agg #[.int .u64 (kcode l'), .int .u64 (kcode h')]] w (Ret (.tuple #[.agg #[.int .u64 (kcode l), .int .u64 (kcode h)], .bool true]) w) := by
 go_enter Tryz.func127, Tryz.ntmps127
 go_wp2_with (first | (go_at_call 88; (with_reducible refine (refEmpty_some l h H1 _).mono ?_); rintro e w2 ⟨rfl, hb2⟩; obtain ⟨hc2, hf2⟩ := bcell hb2; (try simp only [qD, qE, qF] at hc2 hf2); have hz2 := hb2.size; (try simp at hz2); (try have hy2_0 : w.heap.size < w2.heap.size := by omega); (try have hy2_1 : w.heap.size + 1 < w2.heap.size := by omega); (try have hy2_2 : w.heap.size + 2 < w2.heap.size := by omega); (try have hy2_3 : w.heap.size + 3 < w2.heap.size := by omega); (try have hx2_0 : w.heap.size ≤ w2.heap.size := by omega); (try have hx2_1 : w.heap.size + 1 ≤ w2.heap.size := by omega); (try have hx2_2 : w.heap.size + 2 ≤ w2.heap.size := by omega)) | (go_at_call 88; (with_reducible refine (refEmpty_some l' h' H2 _).mono ?_); rintro e w3 ⟨rfl, hb3⟩; obtain ⟨hc3, hf3⟩ := bcell hb3; (try simp only [qD, qE, qF] at hc3 hf3); have hz3 := hb3.size; (try simp at hz3); (try have hy3_0 : w.heap.size < w3.heap.size := by omega); (try have hy3_1 : w.heap.size + 1 < w3.heap.size := by omega); (try have hy3_2 : w.heap.size + 2 < w3.heap.size := by omega); (try have hy3_3 : w.heap.size + 3 < w3.heap.size := by omega); (try have hx3_0 : w.heap.size ≤ w3.heap.size := by omega); (try have hx3_1 : w.heap.size + 1 ≤ w3.heap.size := by omega); (try have hx3_2 : w.heap.size + 2 ≤ w3.heap.size := by omega)))
 (refine wp_region_ext (by kernel_rfl) (by kernel_rfl) ?_; (repeat (go_big_quiet_step (first | (go_at_call 155; with_reducible exact Calls.ext_of (refNext_key _ _))))); refine wpQuiet_nil ?_; rintro w4 ⟨x4, hx4⟩; have hb4 := x4.b; rw [← hx4] at hb4; clear hx4 x4; obtain ⟨hc4, hf4⟩ := bcell hb4; (try simp only [qD, qE, qF] at hc4 hf4); have hz4 := hb4.size; (try simp at hz4); (try have hy4_0 : w.heap.size < w4.heap.size := by omega); (try have hy4_1 : w.heap.size + 1 < w4.heap.size := by omega); (try have hy4_2 : w.heap.size + 2 < w4.heap.size := by omega); (try have hy4_3 : w.heap.size + 3 < w4.heap.size := by omega); (try have hx4_0 : w.heap.size ≤ w4.heap.size := by omega); (try have hx4_1 : w.heap.size + 1 ≤ w4.heap.size := by omega); (try have hx4_2 : w.heap.size + 2 ≤ w4.heap.size := by omega))
 (have cc4_0_0 := hc4 (w.heap.size) 0 (by first | assumption | (simp; done) | (simp; omega)); have cf4_0_0 := hf4 (w.heap.size) 0 (by first | assumption | (simp; done) | (simp; omega)); have cc4_0_1 := hc4 (w.heap.size) 1 (by first | assumption | (simp; done) | (simp; omega)); have cf4_0_1 := hf4 (w.heap.size) 1 (by first | assumption | (simp; done) | (simp; omega)); have cc4_1_0 := hc4 (w.heap.size + 1) 0 (by first | assumption | (simp; done) | (simp; omega)); have cf4_1_0 := hf4 (w.heap.size + 1) 0 (by first | assumption | (simp; done) | (simp; omega)); have cc4_1_1 := hc4 (w.heap.size + 1) 1 (by first | assumption | (simp; done) | (simp; omega)); have cf4_1_1 := hf4 (w.heap.size + 1) 1 (by first | assumption | (simp; done) | (simp; omega)); have cc4_2_0 := hc4 (w.heap.size + 1 + 1) 0 (by first | assumption | (simp; done) | (simp; omega)); have cf4_2_0 := hf4 (w.heap.size + 1 + 1) 0 (by first | assumption | (simp; done) | (simp; omega)); have cc4_2_1 := hc4 (w.heap.size + 1 + 1) 1 (by first | assumption | (simp; done) | (simp; omega)); have cf4_2_1 := hf4 (w.heap.size + 1 + 1) 1 (by first | assumption | (simp; done) | (simp; omega)); clear hc4 hf4; simp [go_sem, *] at cc4_0_0 cf4_0_0 cc4_0_1 cf4_0_1 cc4_1_0 cf4_1_0 cc4_1_1 cf4_1_1 cc4_2_0 cf4_2_0 cc4_2_1 cf4_2_1)
 go_wp2_with (first | (go_at_call 132; (with_reducible refine (refNone_any _).mono ?_); rintro e w5 ⟨rfl, hb5⟩; obtain ⟨hc5, hf5⟩ := bcell hb5; (try simp only [qD, qE, qF] at hc5 hf5); have hz5 := hb5.size; (try simp at hz5); (try have hy5_0 : w.heap.size < w5.heap.size := by omega); (try have hy5_1 : w.heap.size + 1 < w5.heap.size := by omega); (try have hy5_2 : w.heap.size + 2 < w5.heap.size := by omega); (try have hy5_3 : w.heap.size + 3 < w5.heap.size := by omega); (try have hx5_0 : w.heap.size ≤ w5.heap.size := by omega); (try have hx5_1 : w.heap.size + 1 ≤ w5.heap.size := by omega); (try have hx5_2 : w.heap.size + 2 ≤ w5.heap.size := by omega)))
 exact bodyPost_ret (v := .tuple #[.agg #[.int .u64 (kcode l), .int .u64 (kcode h)], .bool true]) (by simp [results, Tryz.results127, go_sem, *]) rfl ⟨rfl, by exact below_auto⟩

end Go.Proofs.YtekmadgacepdfaaGreat
namespace Go.Proofs.YtekmadgacepdfaaGreat
set_option linter.unusedVariables false
open Go.RowKit Fl

theorem kMost_v (k l : Key) : (kMost k l).v = if k.v < l.v then l.v else k.v := by unfold kMost; split <;> rfl
theorem kLeast_v (k l : Key) : (kLeast k l).v = if l.v < k.v then l.v else k.v := by unfold kLeast; split <;> rfl

theorem rnext_lt (h l : Key) : decide (rnext h < kcode l) = flt (knext h).bits l.bits := by
 rw [flt_kk]
 have a1 := h.lo; have a2 := h.hi; have b1 := l.lo; have b2 := l.hi
 apply decide_eq_decide.2
 by_cases ht : h.v = (inf : Int)
 ·have e : knext h = h := by simp [knext, ht]
  rw [e]
  have : kcode h + 1 ≤ rnext h := by unfold rnext; split <;> omega
  have := kcode_lt h l
  omega
 ·have e := knext_v ht
  rw [e]
  have e2 : rnext h = kcode (knext h) := by
   unfold rnext
   by_cases hz : h.v = -1
   ·rw [if_neg (by unfold isCode kcode; rw [if_neg (by omega)]; simp; omega)]
    unfold kcode; rw [if_neg (by omega), if_pos (by omega), e]; omega
   ·have : kcode h + 1 = kcode (knext h) := by unfold kcode; rw [e]; split <;> split <;> omega
    rw [this, if_pos (isCode_key _)]
  rw [e2, kcode_lt, e]
end Go.Proofs.YtekmadgacepdfaaGreat
namespace Go.Proofs.YtekmadgacepdfaaGreat
set_option linter.unusedVariables false
open Go.RowKit Fl

end Go.Proofs.YtekmadgacepdfaaGreat
namespace Go.Proofs.YtekmadgacepdfaaGreat
set_option linter.unusedVariables false
open Go.RowKit Fl

attribute [go_sem] isNaN_slo isNaN_shi
theorem refJoinG (r r' m : Rg) (ok : Bool) (w : World) (h1 : Hid (okR r)) (h2 : Hid (okR r')) (hm : Hid (joinR r r' = (m, ok))) :
  Calls Tryz.prog 127 #[.agg #[.int .u64 (rlo r), .int .u64 (rhi r)], .agg #[.int .u64 (rlo r'), .int .u64 (rhi r')]] w (Ret (.tuple #[.agg #[.int .u64 (rlo m), .int .u64 (rhi m)], .bool ok]) w) := by
 have hm' := hm.out
 have e1 : (joinR r r').1 = m := by rw [hm']
 have e2 : (joinR r r').2 = ok := by rw [hm']
 subst e1; subst e2
 rcases r with _ | ⟨l, h⟩ <;> rcases r' with _ | ⟨l', h'⟩
 ·exact refJoin_nn w
 ·exact refJoin_ns l' h' h2 w
 ·exact refJoin_sn l h h1 w
 ·simp only [joinR]
  cases N1 : decide (rnext h < kcode l')
  ·have F1 : flt (knext h).bits l'.bits = false := by rw [← rnext_lt]; exact N1
   rw [F1]
   cases N2 : decide (rnext h' < kcode l)
   ·have F2 : flt (knext h').bits l.bits = false := by rw [← rnext_lt]; exact N2
    rw [F2]
    have a1 := kcode_lt l' l; have a2 := kcode_lt h h'
    cases T1 : decide (kcode l' < kcode l) <;> cases T2 : decide (kcode h < kcode h')
    ·have g1 : kLeast l l' = l := by unfold kLeast; rw [if_neg (by simp at T1; omega)]
     have g2 : kMost h h' = h := by unfold kMost; rw [if_neg (by simp at T2; omega)]
     simp only [g1, g2, Bool.false_eq_true, if_false]
     exact refJoin_ssC00 l h h1 l' h' h2 N1 N2 T1 T2 w
    ·have g1 : kLeast l l' = l := by unfold kLeast; rw [if_neg (by simp at T1; omega)]
     have g2 : kMost h h' = h' := by unfold kMost; rw [if_pos (by simp at T2; omega)]
     simp only [g1, g2, Bool.false_eq_true, if_false]
     exact refJoin_ssC01 l h h1 l' h' h2 N1 N2 T1 T2 w
    ·have g1 : kLeast l l' = l' := by unfold kLeast; rw [if_pos (by simp at T1; omega)]
     have g2 : kMost h h' = h := by unfold kMost; rw [if_neg (by simp at T2; omega)]
     simp only [g1, g2, Bool.false_eq_true, if_false]
     exact refJoin_ssC10 l h h1 l' h' h2 N1 N2 T1 T2 w
    ·have g1 : kLeast l l' = l' := by unfold kLeast; rw [if_pos (by simp at T1; omega)]
     have g2 : kMost h h' = h' := by unfold kMost; rw [if_pos (by simp at T2; omega)]
     simp only [g1, g2, Bool.false_eq_true, if_false]
     exact refJoin_ssC11 l h h1 l' h' h2 N1 N2 T1 T2 w
   ·have F2 : flt (knext h').bits l.bits = true := by rw [← rnext_lt]; exact N2
    rw [F2]
    exact refJoin_ssB l h h1 l' h' h2 N1 N2 w
  ·have F1 : flt (knext h).bits l'.bits = true := by rw [← rnext_lt]; exact N1
   rw [F1]
   exact refJoin_ssA l h h1 l' h' h2 N1 w
end Go.Proofs.YtekmadgacepdfaaGreat
