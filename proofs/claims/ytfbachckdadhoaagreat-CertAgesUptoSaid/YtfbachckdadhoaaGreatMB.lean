/- Several texts as one: B3 B4 R6 R7 R8 B5 B6 G1. -/
import Derived.Test.YtfbachckdadhoaaGreatMBB
import Derived.Test.YtfbachckdadhoaaGreatMR
import Derived.Test.YtfbachckdadhoaaGreatB2
import Derived.Test.YtfbachckdadhoaaGreatMNL
namespace Go.Proofs.YtfbachckdadhoaaGreat
set_option linter.unusedVariables false
set_option linter.unusedSimpArgs false
open Go.RowKit Fl

set_option maxRecDepth 100000 in
theorem join_nn (lo hi lo' hi' : Nat) (a b a' b' : Bool) (w : World) (hl : lo < 2 ^ 64) (hh : hi < 2 ^ 64) (hl' : lo' < 2 ^ 64) (hh' : hi' < 2 ^ 64) (hr : Hid (canonS lo hi a b = none)) (hr' : Hid (canonS lo' hi' a' b' = none)) :
  Calls Tryz.prog 149 #[.agg #[.float .f64 lo, .float .f64 hi, .bool a, .bool b], .agg #[.float .f64 lo', .float .f64 hi', .bool a', .bool b']] w (Ret (.tuple #[.agg #[.float .f64 0, .float .f64 0, .bool true, .bool true], .bool true]) w) := by
 go_enter Tryz.func149, Tryz.ntmps149
 go_wp2_with fail
 (refine wp_region_ext_tail 4 (by kernel_rfl) (by kernel_rfl) (by kernel_rfl) ?_; simp only [List.take_succ_cons, List.take_zero, List.drop_succ_cons, List.drop_zero]; (repeat (go_big_quiet_step (first | (go_at_call 144; with_reducible exact Calls.ext_of (canon_isN lo hi a b _ hl hh hr)) | (go_at_call 144; with_reducible exact Calls.ext_of (canon_isN lo' hi' a' b' _ hl' hh' hr'))))); refine mX ?_; intro w1 hb1 hc1 hf1 hz1; intros)
 (have cc1_0_0 := hc1 (w.heap.size) 0 lt_auto; have cf1_0_0 := hf1 (w.heap.size) 0 lt_auto; have cc1_0_1 := hc1 (w.heap.size) 1 lt_auto; have cf1_0_1 := hf1 (w.heap.size) 1 lt_auto; have cc1_0_2 := hc1 (w.heap.size) 2 lt_auto; have cf1_0_2 := hf1 (w.heap.size) 2 lt_auto; have cc1_0_3 := hc1 (w.heap.size) 3 lt_auto; have cf1_0_3 := hf1 (w.heap.size) 3 lt_auto; have cc1_1_0 := hc1 (w.heap.size + 1) 0 lt_auto; have cf1_1_0 := hf1 (w.heap.size + 1) 0 lt_auto; have cc1_1_1 := hc1 (w.heap.size + 1) 1 lt_auto; have cf1_1_1 := hf1 (w.heap.size + 1) 1 lt_auto; have cc1_1_2 := hc1 (w.heap.size + 1) 2 lt_auto; have cf1_1_2 := hf1 (w.heap.size + 1) 2 lt_auto; have cc1_1_3 := hc1 (w.heap.size + 1) 3 lt_auto; have cf1_1_3 := hf1 (w.heap.size + 1) 3 lt_auto; have cc1_2_0 := hc1 (w.heap.size + 1 + 1) 0 lt_auto; have cf1_2_0 := hf1 (w.heap.size + 1 + 1) 0 lt_auto; have cc1_2_1 := hc1 (w.heap.size + 1 + 1) 1 lt_auto; have cf1_2_1 := hf1 (w.heap.size + 1 + 1) 1 lt_auto; have cc1_2_2 := hc1 (w.heap.size + 1 + 1) 2 lt_auto; have cf1_2_2 := hf1 (w.heap.size + 1 + 1) 2 lt_auto; have cc1_2_3 := hc1 (w.heap.size + 1 + 1) 3 lt_auto; have cf1_2_3 := hf1 (w.heap.size + 1 + 1) 3 lt_auto; clear hc1 hf1; simp [go_sem] at cc1_0_0 cf1_0_0 cc1_0_1 cf1_0_1 cc1_0_2 cf1_0_2 cc1_0_3 cf1_0_3 cc1_1_0 cf1_1_0 cc1_1_1 cf1_1_1 cc1_1_2 cf1_1_2 cc1_1_3 cf1_1_3 cc1_2_0 cf1_2_0 cc1_2_1 cf1_2_1 cc1_2_2 cf1_2_2 cc1_2_3 cf1_2_3)
 go_wp2_with fail
 exact bodyPost_ret (v := .tuple #[.agg #[.float .f64 0, .float .f64 0, .bool true, .bool true], .bool true]) (by simp [results, Tryz.results149, go_sem, *]) rfl ⟨rfl, by exact below_auto⟩

set_option maxRecDepth 100000 in
theorem join_ns (lo hi lo' hi' : Nat) (a b a' b' : Bool) (w : World) (hl : lo < 2 ^ 64) (hh : hi < 2 ^ 64) (hl' : lo' < 2 ^ 64) (hh' : hi' < 2 ^ 64) (hr : Hid (canonS lo hi a b = none)) (l' h' : Key) (hr' : Hid (canonS lo' hi' a' b' = some (l', h'))) :
  Calls Tryz.prog 149 #[.agg #[.float .f64 lo, .float .f64 hi, .bool a, .bool b], .agg #[.float .f64 lo', .float .f64 hi', .bool a', .bool b']] w (Ret (.tuple #[.agg #[.float .f64 l'.bits, .float .f64 h'.bits, .bool false, .bool false], .bool true]) w) := by
 go_enter Tryz.func149, Tryz.ntmps149
 go_wp2_with fail
 (refine wp_region_ext_tail 4 (by kernel_rfl) (by kernel_rfl) (by kernel_rfl) ?_; simp only [List.take_succ_cons, List.take_zero, List.drop_succ_cons, List.drop_zero]; (repeat (go_big_quiet_step (first | (go_at_call 144; with_reducible exact Calls.ext_of (canon_isN lo hi a b _ hl hh hr)) | (go_at_call 144; with_reducible exact Calls.ext_of (canon_isS lo' hi' a' b' l' h' _ hl' hh' hr'))))); refine mX ?_; intro w1 hb1 hc1 hf1 hz1; intros)
 (have cc1_0_0 := hc1 (w.heap.size) 0 lt_auto; have cf1_0_0 := hf1 (w.heap.size) 0 lt_auto; have cc1_0_1 := hc1 (w.heap.size) 1 lt_auto; have cf1_0_1 := hf1 (w.heap.size) 1 lt_auto; have cc1_0_2 := hc1 (w.heap.size) 2 lt_auto; have cf1_0_2 := hf1 (w.heap.size) 2 lt_auto; have cc1_0_3 := hc1 (w.heap.size) 3 lt_auto; have cf1_0_3 := hf1 (w.heap.size) 3 lt_auto; have cc1_1_0 := hc1 (w.heap.size + 1) 0 lt_auto; have cf1_1_0 := hf1 (w.heap.size + 1) 0 lt_auto; have cc1_1_1 := hc1 (w.heap.size + 1) 1 lt_auto; have cf1_1_1 := hf1 (w.heap.size + 1) 1 lt_auto; have cc1_1_2 := hc1 (w.heap.size + 1) 2 lt_auto; have cf1_1_2 := hf1 (w.heap.size + 1) 2 lt_auto; have cc1_1_3 := hc1 (w.heap.size + 1) 3 lt_auto; have cf1_1_3 := hf1 (w.heap.size + 1) 3 lt_auto; have cc1_2_0 := hc1 (w.heap.size + 1 + 1) 0 lt_auto; have cf1_2_0 := hf1 (w.heap.size + 1 + 1) 0 lt_auto; have cc1_2_1 := hc1 (w.heap.size + 1 + 1) 1 lt_auto; have cf1_2_1 := hf1 (w.heap.size + 1 + 1) 1 lt_auto; have cc1_2_2 := hc1 (w.heap.size + 1 + 1) 2 lt_auto; have cf1_2_2 := hf1 (w.heap.size + 1 + 1) 2 lt_auto; have cc1_2_3 := hc1 (w.heap.size + 1 + 1) 3 lt_auto; have cf1_2_3 := hf1 (w.heap.size + 1 + 1) 3 lt_auto; clear hc1 hf1; simp [go_sem] at cc1_0_0 cf1_0_0 cc1_0_1 cf1_0_1 cc1_0_2 cf1_0_2 cc1_0_3 cf1_0_3 cc1_1_0 cf1_1_0 cc1_1_1 cf1_1_1 cc1_1_2 cf1_1_2 cc1_1_3 cf1_1_3 cc1_2_0 cf1_2_0 cc1_2_1 cf1_2_1 cc1_2_2 cf1_2_2 cc1_2_3 cf1_2_3)
 go_wp2_with fail
 exact bodyPost_ret (v := .tuple #[.agg #[.float .f64 l'.bits, .float .f64 h'.bits, .bool false, .bool false], .bool true]) (by simp [results, Tryz.results149, go_sem, *]) rfl ⟨rfl, by exact below_auto⟩

set_option maxRecDepth 100000 in
theorem join_sn (lo hi lo' hi' : Nat) (a b a' b' : Bool) (w : World) (hl : lo < 2 ^ 64) (hh : hi < 2 ^ 64) (hl' : lo' < 2 ^ 64) (hh' : hi' < 2 ^ 64) (l h : Key) (hr : Hid (canonS lo hi a b = some (l, h))) (hr' : Hid (canonS lo' hi' a' b' = none)) :
  Calls Tryz.prog 149 #[.agg #[.float .f64 lo, .float .f64 hi, .bool a, .bool b], .agg #[.float .f64 lo', .float .f64 hi', .bool a', .bool b']] w (Ret (.tuple #[.agg #[.float .f64 l.bits, .float .f64 h.bits, .bool false, .bool false], .bool true]) w) := by
 go_enter Tryz.func149, Tryz.ntmps149
 go_wp2_with fail
 (refine wp_region_ext_tail 4 (by kernel_rfl) (by kernel_rfl) (by kernel_rfl) ?_; simp only [List.take_succ_cons, List.take_zero, List.drop_succ_cons, List.drop_zero]; (repeat (go_big_quiet_step (first | (go_at_call 144; with_reducible exact Calls.ext_of (canon_isS lo hi a b l h _ hl hh hr)) | (go_at_call 144; with_reducible exact Calls.ext_of (canon_isN lo' hi' a' b' _ hl' hh' hr'))))); refine mX ?_; intro w1 hb1 hc1 hf1 hz1; intros)
 (have cc1_0_0 := hc1 (w.heap.size) 0 lt_auto; have cf1_0_0 := hf1 (w.heap.size) 0 lt_auto; have cc1_0_1 := hc1 (w.heap.size) 1 lt_auto; have cf1_0_1 := hf1 (w.heap.size) 1 lt_auto; have cc1_0_2 := hc1 (w.heap.size) 2 lt_auto; have cf1_0_2 := hf1 (w.heap.size) 2 lt_auto; have cc1_0_3 := hc1 (w.heap.size) 3 lt_auto; have cf1_0_3 := hf1 (w.heap.size) 3 lt_auto; have cc1_1_0 := hc1 (w.heap.size + 1) 0 lt_auto; have cf1_1_0 := hf1 (w.heap.size + 1) 0 lt_auto; have cc1_1_1 := hc1 (w.heap.size + 1) 1 lt_auto; have cf1_1_1 := hf1 (w.heap.size + 1) 1 lt_auto; have cc1_1_2 := hc1 (w.heap.size + 1) 2 lt_auto; have cf1_1_2 := hf1 (w.heap.size + 1) 2 lt_auto; have cc1_1_3 := hc1 (w.heap.size + 1) 3 lt_auto; have cf1_1_3 := hf1 (w.heap.size + 1) 3 lt_auto; have cc1_2_0 := hc1 (w.heap.size + 1 + 1) 0 lt_auto; have cf1_2_0 := hf1 (w.heap.size + 1 + 1) 0 lt_auto; have cc1_2_1 := hc1 (w.heap.size + 1 + 1) 1 lt_auto; have cf1_2_1 := hf1 (w.heap.size + 1 + 1) 1 lt_auto; have cc1_2_2 := hc1 (w.heap.size + 1 + 1) 2 lt_auto; have cf1_2_2 := hf1 (w.heap.size + 1 + 1) 2 lt_auto; have cc1_2_3 := hc1 (w.heap.size + 1 + 1) 3 lt_auto; have cf1_2_3 := hf1 (w.heap.size + 1 + 1) 3 lt_auto; clear hc1 hf1; simp [go_sem] at cc1_0_0 cf1_0_0 cc1_0_1 cf1_0_1 cc1_0_2 cf1_0_2 cc1_0_3 cf1_0_3 cc1_1_0 cf1_1_0 cc1_1_1 cf1_1_1 cc1_1_2 cf1_1_2 cc1_1_3 cf1_1_3 cc1_2_0 cf1_2_0 cc1_2_1 cf1_2_1 cc1_2_2 cf1_2_2 cc1_2_3 cf1_2_3)
 go_wp2_with fail
 exact bodyPost_ret (v := .tuple #[.agg #[.float .f64 l.bits, .float .f64 h.bits, .bool false, .bool false], .bool true]) (by simp [results, Tryz.results149, go_sem, *]) rfl ⟨rfl, by exact below_auto⟩

set_option maxRecDepth 100000 in
theorem join_ssA (lo hi lo' hi' : Nat) (a b a' b' : Bool) (w : World) (hl : lo < 2 ^ 64) (hh : hi < 2 ^ 64) (hl' : lo' < 2 ^ 64) (hh' : hi' < 2 ^ 64) (l h : Key) (hr : Hid (canonS lo hi a b = some (l, h))) (l' h' : Key) (hr' : Hid (canonS lo' hi' a' b' = some (l', h'))) (F1 : flt (knext h).bits l'.bits = true) :
  Calls Tryz.prog 149 #[.agg #[.float .f64 lo, .float .f64 hi, .bool a, .bool b], .agg #[.float .f64 lo', .float .f64 hi', .bool a', .bool b']] w (Ret (.tuple #[.agg #[.float .f64 0, .float .f64 0, .bool true, .bool true], .bool false]) w) := by
 go_enter Tryz.func149, Tryz.ntmps149
 go_wp2_with fail
 (refine wp_region_ext_tail 4 (by kernel_rfl) (by kernel_rfl) (by kernel_rfl) ?_; simp only [List.take_succ_cons, List.take_zero, List.drop_succ_cons, List.drop_zero]; (repeat (go_big_quiet_step (first | (go_at_call 144; with_reducible exact Calls.ext_of (canon_isS lo hi a b l h _ hl hh hr)) | (go_at_call 144; with_reducible exact Calls.ext_of (canon_isS lo' hi' a' b' l' h' _ hl' hh' hr'))))); refine mX ?_; intro w1 hb1 hc1 hf1 hz1; intros)
 (have cc1_0_0 := hc1 (w.heap.size) 0 lt_auto; have cf1_0_0 := hf1 (w.heap.size) 0 lt_auto; have cc1_0_1 := hc1 (w.heap.size) 1 lt_auto; have cf1_0_1 := hf1 (w.heap.size) 1 lt_auto; have cc1_0_2 := hc1 (w.heap.size) 2 lt_auto; have cf1_0_2 := hf1 (w.heap.size) 2 lt_auto; have cc1_0_3 := hc1 (w.heap.size) 3 lt_auto; have cf1_0_3 := hf1 (w.heap.size) 3 lt_auto; have cc1_1_0 := hc1 (w.heap.size + 1) 0 lt_auto; have cf1_1_0 := hf1 (w.heap.size + 1) 0 lt_auto; have cc1_1_1 := hc1 (w.heap.size + 1) 1 lt_auto; have cf1_1_1 := hf1 (w.heap.size + 1) 1 lt_auto; have cc1_1_2 := hc1 (w.heap.size + 1) 2 lt_auto; have cf1_1_2 := hf1 (w.heap.size + 1) 2 lt_auto; have cc1_1_3 := hc1 (w.heap.size + 1) 3 lt_auto; have cf1_1_3 := hf1 (w.heap.size + 1) 3 lt_auto; have cc1_2_0 := hc1 (w.heap.size + 1 + 1) 0 lt_auto; have cf1_2_0 := hf1 (w.heap.size + 1 + 1) 0 lt_auto; have cc1_2_1 := hc1 (w.heap.size + 1 + 1) 1 lt_auto; have cf1_2_1 := hf1 (w.heap.size + 1 + 1) 1 lt_auto; have cc1_2_2 := hc1 (w.heap.size + 1 + 1) 2 lt_auto; have cf1_2_2 := hf1 (w.heap.size + 1 + 1) 2 lt_auto; have cc1_2_3 := hc1 (w.heap.size + 1 + 1) 3 lt_auto; have cf1_2_3 := hf1 (w.heap.size + 1 + 1) 3 lt_auto; clear hc1 hf1; simp [go_sem] at cc1_0_0 cf1_0_0 cc1_0_1 cf1_0_1 cc1_0_2 cf1_0_2 cc1_0_3 cf1_0_3 cc1_1_0 cf1_1_0 cc1_1_1 cf1_1_1 cc1_1_2 cf1_1_2 cc1_1_3 cf1_1_3 cc1_2_0 cf1_2_0 cc1_2_1 cf1_2_1 cc1_2_2 cf1_2_2 cc1_2_3 cf1_2_3)
 go_wp2_with fail
 (generalize hW2 : World.setCell _ _ _ = w2; have hB2 : Below w.heap.size w w2 := (by rw [← hW2]; exact below_auto); have hS2 := congrArg (fun W => W.heap.size) hW2.symm; simp [go_sem] at hS2; have cc2_0_0 := congrArg (fun W => W.cell? ⟨w.heap.size, 0, none⟩) hW2.symm; have cf2_0_0 := congrArg (fun W => W.frozen? ⟨w.heap.size, 0, none⟩) hW2.symm; have cc2_0_1 := congrArg (fun W => W.cell? ⟨w.heap.size, 1, none⟩) hW2.symm; have cf2_0_1 := congrArg (fun W => W.frozen? ⟨w.heap.size, 1, none⟩) hW2.symm; have cc2_0_2 := congrArg (fun W => W.cell? ⟨w.heap.size, 2, none⟩) hW2.symm; have cf2_0_2 := congrArg (fun W => W.frozen? ⟨w.heap.size, 2, none⟩) hW2.symm; have cc2_0_3 := congrArg (fun W => W.cell? ⟨w.heap.size, 3, none⟩) hW2.symm; have cf2_0_3 := congrArg (fun W => W.frozen? ⟨w.heap.size, 3, none⟩) hW2.symm; have cc2_1_0 := congrArg (fun W => W.cell? ⟨w.heap.size + 1, 0, none⟩) hW2.symm; have cf2_1_0 := congrArg (fun W => W.frozen? ⟨w.heap.size + 1, 0, none⟩) hW2.symm; have cc2_1_1 := congrArg (fun W => W.cell? ⟨w.heap.size + 1, 1, none⟩) hW2.symm; have cf2_1_1 := congrArg (fun W => W.frozen? ⟨w.heap.size + 1, 1, none⟩) hW2.symm; have cc2_1_2 := congrArg (fun W => W.cell? ⟨w.heap.size + 1, 2, none⟩) hW2.symm; have cf2_1_2 := congrArg (fun W => W.frozen? ⟨w.heap.size + 1, 2, none⟩) hW2.symm; have cc2_1_3 := congrArg (fun W => W.cell? ⟨w.heap.size + 1, 3, none⟩) hW2.symm; have cf2_1_3 := congrArg (fun W => W.frozen? ⟨w.heap.size + 1, 3, none⟩) hW2.symm; have cc2_2_0 := congrArg (fun W => W.cell? ⟨w.heap.size + 1 + 1, 0, none⟩) hW2.symm; have cf2_2_0 := congrArg (fun W => W.frozen? ⟨w.heap.size + 1 + 1, 0, none⟩) hW2.symm; have cc2_2_1 := congrArg (fun W => W.cell? ⟨w.heap.size + 1 + 1, 1, none⟩) hW2.symm; have cf2_2_1 := congrArg (fun W => W.frozen? ⟨w.heap.size + 1 + 1, 1, none⟩) hW2.symm; have cc2_2_2 := congrArg (fun W => W.cell? ⟨w.heap.size + 1 + 1, 2, none⟩) hW2.symm; have cf2_2_2 := congrArg (fun W => W.frozen? ⟨w.heap.size + 1 + 1, 2, none⟩) hW2.symm; have cc2_2_3 := congrArg (fun W => W.cell? ⟨w.heap.size + 1 + 1, 3, none⟩) hW2.symm; have cf2_2_3 := congrArg (fun W => W.frozen? ⟨w.heap.size + 1 + 1, 3, none⟩) hW2.symm; clear hW2; simp [go_sem, *] at cc2_0_0; simp [go_sem, *] at cf2_0_0; simp [go_sem, *] at cc2_0_1; simp [go_sem, *] at cf2_0_1; simp [go_sem, *] at cc2_0_2; simp [go_sem, *] at cf2_0_2; simp [go_sem, *] at cc2_0_3; simp [go_sem, *] at cf2_0_3; simp [go_sem, *] at cc2_1_0; simp [go_sem, *] at cf2_1_0; simp [go_sem, *] at cc2_1_1; simp [go_sem, *] at cf2_1_1; simp [go_sem, *] at cc2_1_2; simp [go_sem, *] at cf2_1_2; simp [go_sem, *] at cc2_1_3; simp [go_sem, *] at cf2_1_3; simp [go_sem, *] at cc2_2_0; simp [go_sem, *] at cf2_2_0; simp [go_sem, *] at cc2_2_1; simp [go_sem, *] at cf2_2_1; simp [go_sem, *] at cc2_2_2; simp [go_sem, *] at cf2_2_2; simp [go_sem, *] at cc2_2_3; simp [go_sem, *] at cf2_2_3; (try have hw2_0 : w.heap.size < w2.heap.size := by omega); (try have hw2_1 : w.heap.size + 1 < w2.heap.size := by omega); (try have hw2_2 : w.heap.size + 1 + 1 < w2.heap.size := by omega); (try have hw2_3 : w.heap.size + 1 + 1 + 1 < w2.heap.size := by omega); clear hS2; (try clear hb1); (try clear hz1); (try clear hB1); (try clear cc1_0_0); (try clear cf1_0_0); (try clear cc1_0_1); (try clear cf1_0_1); (try clear cc1_0_2); (try clear cf1_0_2); (try clear cc1_0_3); (try clear cf1_0_3); (try clear cc1_1_0); (try clear cf1_1_0); (try clear cc1_1_1); (try clear cf1_1_1); (try clear cc1_1_2); (try clear cf1_1_2); (try clear cc1_1_3); (try clear cf1_1_3); (try clear cc1_2_0); (try clear cf1_2_0); (try clear cc1_2_1); (try clear cf1_2_1); (try clear cc1_2_2); (try clear cf1_2_2); (try clear cc1_2_3); (try clear cf1_2_3); (try clear hy1_0); (try clear hx1_0); (try clear hw1_0); (try clear hy1_1); (try clear hx1_1); (try clear hw1_1); (try clear hy1_2); (try clear hx1_2); (try clear hw1_2); (try clear hy1_3); (try clear hx1_3); (try clear hw1_3))
 (refine wp_region_ext (by kernel_rfl) (by kernel_rfl) ?_; (repeat (go_big_quiet_step (first | (go_at_call 171; with_reducible exact Calls.ext_same (next_any _ _))))); refine mX ?_; intro w3 hb3 hc3 hf3 hz3; intros)
 go_wp2_with (go_at_call 170; (with_reducible refine (noneV_any _).mono ?_); rintro e w4 ⟨rfl, hb4⟩; refine mB hb4 ?_; intro hc4 hf4 hz4; intros)
 exact bodyPost_ret (v := .tuple #[.agg #[.float .f64 0, .float .f64 0, .bool true, .bool true], .bool false]) (by simp [results, Tryz.results149, go_sem, *]) rfl ⟨rfl, by exact below_auto⟩

set_option maxRecDepth 100000 in
theorem join_ssB (lo hi lo' hi' : Nat) (a b a' b' : Bool) (w : World) (hl : lo < 2 ^ 64) (hh : hi < 2 ^ 64) (hl' : lo' < 2 ^ 64) (hh' : hi' < 2 ^ 64) (l h : Key) (hr : Hid (canonS lo hi a b = some (l, h))) (l' h' : Key) (hr' : Hid (canonS lo' hi' a' b' = some (l', h'))) (F1 : flt (knext h).bits l'.bits = false) (F2 : flt (knext h').bits l.bits = true) :
  Calls Tryz.prog 149 #[.agg #[.float .f64 lo, .float .f64 hi, .bool a, .bool b], .agg #[.float .f64 lo', .float .f64 hi', .bool a', .bool b']] w (Ret (.tuple #[.agg #[.float .f64 0, .float .f64 0, .bool true, .bool true], .bool false]) w) := by
 go_enter Tryz.func149, Tryz.ntmps149
 go_wp2_with fail
 (refine wp_region_ext_tail 4 (by kernel_rfl) (by kernel_rfl) (by kernel_rfl) ?_; simp only [List.take_succ_cons, List.take_zero, List.drop_succ_cons, List.drop_zero]; (repeat (go_big_quiet_step (first | (go_at_call 144; with_reducible exact Calls.ext_of (canon_isS lo hi a b l h _ hl hh hr)) | (go_at_call 144; with_reducible exact Calls.ext_of (canon_isS lo' hi' a' b' l' h' _ hl' hh' hr'))))); refine mX ?_; intro w1 hb1 hc1 hf1 hz1; intros)
 (have cc1_0_0 := hc1 (w.heap.size) 0 lt_auto; have cf1_0_0 := hf1 (w.heap.size) 0 lt_auto; have cc1_0_1 := hc1 (w.heap.size) 1 lt_auto; have cf1_0_1 := hf1 (w.heap.size) 1 lt_auto; have cc1_0_2 := hc1 (w.heap.size) 2 lt_auto; have cf1_0_2 := hf1 (w.heap.size) 2 lt_auto; have cc1_0_3 := hc1 (w.heap.size) 3 lt_auto; have cf1_0_3 := hf1 (w.heap.size) 3 lt_auto; have cc1_1_0 := hc1 (w.heap.size + 1) 0 lt_auto; have cf1_1_0 := hf1 (w.heap.size + 1) 0 lt_auto; have cc1_1_1 := hc1 (w.heap.size + 1) 1 lt_auto; have cf1_1_1 := hf1 (w.heap.size + 1) 1 lt_auto; have cc1_1_2 := hc1 (w.heap.size + 1) 2 lt_auto; have cf1_1_2 := hf1 (w.heap.size + 1) 2 lt_auto; have cc1_1_3 := hc1 (w.heap.size + 1) 3 lt_auto; have cf1_1_3 := hf1 (w.heap.size + 1) 3 lt_auto; have cc1_2_0 := hc1 (w.heap.size + 1 + 1) 0 lt_auto; have cf1_2_0 := hf1 (w.heap.size + 1 + 1) 0 lt_auto; have cc1_2_1 := hc1 (w.heap.size + 1 + 1) 1 lt_auto; have cf1_2_1 := hf1 (w.heap.size + 1 + 1) 1 lt_auto; have cc1_2_2 := hc1 (w.heap.size + 1 + 1) 2 lt_auto; have cf1_2_2 := hf1 (w.heap.size + 1 + 1) 2 lt_auto; have cc1_2_3 := hc1 (w.heap.size + 1 + 1) 3 lt_auto; have cf1_2_3 := hf1 (w.heap.size + 1 + 1) 3 lt_auto; clear hc1 hf1; simp [go_sem] at cc1_0_0 cf1_0_0 cc1_0_1 cf1_0_1 cc1_0_2 cf1_0_2 cc1_0_3 cf1_0_3 cc1_1_0 cf1_1_0 cc1_1_1 cf1_1_1 cc1_1_2 cf1_1_2 cc1_1_3 cf1_1_3 cc1_2_0 cf1_2_0 cc1_2_1 cf1_2_1 cc1_2_2 cf1_2_2 cc1_2_3 cf1_2_3)
 go_wp2_with fail
 (generalize hW2 : World.setCell _ _ _ = w2; have hB2 : Below w.heap.size w w2 := (by rw [← hW2]; exact below_auto); have hS2 := congrArg (fun W => W.heap.size) hW2.symm; simp [go_sem] at hS2; have cc2_0_0 := congrArg (fun W => W.cell? ⟨w.heap.size, 0, none⟩) hW2.symm; have cf2_0_0 := congrArg (fun W => W.frozen? ⟨w.heap.size, 0, none⟩) hW2.symm; have cc2_0_1 := congrArg (fun W => W.cell? ⟨w.heap.size, 1, none⟩) hW2.symm; have cf2_0_1 := congrArg (fun W => W.frozen? ⟨w.heap.size, 1, none⟩) hW2.symm; have cc2_0_2 := congrArg (fun W => W.cell? ⟨w.heap.size, 2, none⟩) hW2.symm; have cf2_0_2 := congrArg (fun W => W.frozen? ⟨w.heap.size, 2, none⟩) hW2.symm; have cc2_0_3 := congrArg (fun W => W.cell? ⟨w.heap.size, 3, none⟩) hW2.symm; have cf2_0_3 := congrArg (fun W => W.frozen? ⟨w.heap.size, 3, none⟩) hW2.symm; have cc2_1_0 := congrArg (fun W => W.cell? ⟨w.heap.size + 1, 0, none⟩) hW2.symm; have cf2_1_0 := congrArg (fun W => W.frozen? ⟨w.heap.size + 1, 0, none⟩) hW2.symm; have cc2_1_1 := congrArg (fun W => W.cell? ⟨w.heap.size + 1, 1, none⟩) hW2.symm; have cf2_1_1 := congrArg (fun W => W.frozen? ⟨w.heap.size + 1, 1, none⟩) hW2.symm; have cc2_1_2 := congrArg (fun W => W.cell? ⟨w.heap.size + 1, 2, none⟩) hW2.symm; have cf2_1_2 := congrArg (fun W => W.frozen? ⟨w.heap.size + 1, 2, none⟩) hW2.symm; have cc2_1_3 := congrArg (fun W => W.cell? ⟨w.heap.size + 1, 3, none⟩) hW2.symm; have cf2_1_3 := congrArg (fun W => W.frozen? ⟨w.heap.size + 1, 3, none⟩) hW2.symm; have cc2_2_0 := congrArg (fun W => W.cell? ⟨w.heap.size + 1 + 1, 0, none⟩) hW2.symm; have cf2_2_0 := congrArg (fun W => W.frozen? ⟨w.heap.size + 1 + 1, 0, none⟩) hW2.symm; have cc2_2_1 := congrArg (fun W => W.cell? ⟨w.heap.size + 1 + 1, 1, none⟩) hW2.symm; have cf2_2_1 := congrArg (fun W => W.frozen? ⟨w.heap.size + 1 + 1, 1, none⟩) hW2.symm; have cc2_2_2 := congrArg (fun W => W.cell? ⟨w.heap.size + 1 + 1, 2, none⟩) hW2.symm; have cf2_2_2 := congrArg (fun W => W.frozen? ⟨w.heap.size + 1 + 1, 2, none⟩) hW2.symm; have cc2_2_3 := congrArg (fun W => W.cell? ⟨w.heap.size + 1 + 1, 3, none⟩) hW2.symm; have cf2_2_3 := congrArg (fun W => W.frozen? ⟨w.heap.size + 1 + 1, 3, none⟩) hW2.symm; clear hW2; simp [go_sem, *] at cc2_0_0; simp [go_sem, *] at cf2_0_0; simp [go_sem, *] at cc2_0_1; simp [go_sem, *] at cf2_0_1; simp [go_sem, *] at cc2_0_2; simp [go_sem, *] at cf2_0_2; simp [go_sem, *] at cc2_0_3; simp [go_sem, *] at cf2_0_3; simp [go_sem, *] at cc2_1_0; simp [go_sem, *] at cf2_1_0; simp [go_sem, *] at cc2_1_1; simp [go_sem, *] at cf2_1_1; simp [go_sem, *] at cc2_1_2; simp [go_sem, *] at cf2_1_2; simp [go_sem, *] at cc2_1_3; simp [go_sem, *] at cf2_1_3; simp [go_sem, *] at cc2_2_0; simp [go_sem, *] at cf2_2_0; simp [go_sem, *] at cc2_2_1; simp [go_sem, *] at cf2_2_1; simp [go_sem, *] at cc2_2_2; simp [go_sem, *] at cf2_2_2; simp [go_sem, *] at cc2_2_3; simp [go_sem, *] at cf2_2_3; (try have hw2_0 : w.heap.size < w2.heap.size := by omega); (try have hw2_1 : w.heap.size + 1 < w2.heap.size := by omega); (try have hw2_2 : w.heap.size + 1 + 1 < w2.heap.size := by omega); (try have hw2_3 : w.heap.size + 1 + 1 + 1 < w2.heap.size := by omega); clear hS2; (try clear hb1); (try clear hz1); (try clear hB1); (try clear cc1_0_0); (try clear cf1_0_0); (try clear cc1_0_1); (try clear cf1_0_1); (try clear cc1_0_2); (try clear cf1_0_2); (try clear cc1_0_3); (try clear cf1_0_3); (try clear cc1_1_0); (try clear cf1_1_0); (try clear cc1_1_1); (try clear cf1_1_1); (try clear cc1_1_2); (try clear cf1_1_2); (try clear cc1_1_3); (try clear cf1_1_3); (try clear cc1_2_0); (try clear cf1_2_0); (try clear cc1_2_1); (try clear cf1_2_1); (try clear cc1_2_2); (try clear cf1_2_2); (try clear cc1_2_3); (try clear cf1_2_3); (try clear hy1_0); (try clear hx1_0); (try clear hw1_0); (try clear hy1_1); (try clear hx1_1); (try clear hw1_1); (try clear hy1_2); (try clear hx1_2); (try clear hw1_2); (try clear hy1_3); (try clear hx1_3); (try clear hw1_3))
 (refine wp_region_ext (by kernel_rfl) (by kernel_rfl) ?_; (repeat (go_big_quiet_step (first | (go_at_call 171; with_reducible exact Calls.ext_same (next_any _ _))))); refine mX ?_; intro w3 hb3 hc3 hf3 hz3; intros)
 go_wp2_with (go_at_call 170; (with_reducible refine (noneV_any _).mono ?_); rintro e w4 ⟨rfl, hb4⟩; refine mB hb4 ?_; intro hc4 hf4 hz4; intros)
 exact bodyPost_ret (v := .tuple #[.agg #[.float .f64 0, .float .f64 0, .bool true, .bool true], .bool false]) (by simp [results, Tryz.results149, go_sem, *]) rfl ⟨rfl, by exact below_auto⟩

set_option maxRecDepth 100000 in
theorem join_ssC (lo hi lo' hi' : Nat) (a b a' b' : Bool) (w : World) (hl : lo < 2 ^ 64) (hh : hi < 2 ^ 64) (hl' : lo' < 2 ^ 64) (hh' : hi' < 2 ^ 64) (l h : Key) (hr : Hid (canonS lo hi a b = some (l, h))) (l' h' : Key) (hr' : Hid (canonS lo' hi' a' b' = some (l', h'))) (F1 : flt (knext h).bits l'.bits = false) (F2 : flt (knext h').bits l.bits = false) :
  Calls Tryz.prog 149 #[.agg #[.float .f64 lo, .float .f64 hi, .bool a, .bool b], .agg #[.float .f64 lo', .float .f64 hi', .bool a', .bool b']] w (Ret (.tuple #[.agg #[.float .f64 (kLeast l l').bits, .float .f64 (kMost h h').bits, .bool false, .bool false], .bool true]) w) := by
 go_enter Tryz.func149, Tryz.ntmps149
 go_wp2_with fail
 (refine wp_region_ext_tail 4 (by kernel_rfl) (by kernel_rfl) (by kernel_rfl) ?_; simp only [List.take_succ_cons, List.take_zero, List.drop_succ_cons, List.drop_zero]; (repeat (go_big_quiet_step (first | (go_at_call 144; with_reducible exact Calls.ext_of (canon_isS lo hi a b l h _ hl hh hr)) | (go_at_call 144; with_reducible exact Calls.ext_of (canon_isS lo' hi' a' b' l' h' _ hl' hh' hr'))))); refine mX ?_; intro w1 hb1 hc1 hf1 hz1; intros)
 (have cc1_0_0 := hc1 (w.heap.size) 0 lt_auto; have cf1_0_0 := hf1 (w.heap.size) 0 lt_auto; have cc1_0_1 := hc1 (w.heap.size) 1 lt_auto; have cf1_0_1 := hf1 (w.heap.size) 1 lt_auto; have cc1_0_2 := hc1 (w.heap.size) 2 lt_auto; have cf1_0_2 := hf1 (w.heap.size) 2 lt_auto; have cc1_0_3 := hc1 (w.heap.size) 3 lt_auto; have cf1_0_3 := hf1 (w.heap.size) 3 lt_auto; have cc1_1_0 := hc1 (w.heap.size + 1) 0 lt_auto; have cf1_1_0 := hf1 (w.heap.size + 1) 0 lt_auto; have cc1_1_1 := hc1 (w.heap.size + 1) 1 lt_auto; have cf1_1_1 := hf1 (w.heap.size + 1) 1 lt_auto; have cc1_1_2 := hc1 (w.heap.size + 1) 2 lt_auto; have cf1_1_2 := hf1 (w.heap.size + 1) 2 lt_auto; have cc1_1_3 := hc1 (w.heap.size + 1) 3 lt_auto; have cf1_1_3 := hf1 (w.heap.size + 1) 3 lt_auto; have cc1_2_0 := hc1 (w.heap.size + 1 + 1) 0 lt_auto; have cf1_2_0 := hf1 (w.heap.size + 1 + 1) 0 lt_auto; have cc1_2_1 := hc1 (w.heap.size + 1 + 1) 1 lt_auto; have cf1_2_1 := hf1 (w.heap.size + 1 + 1) 1 lt_auto; have cc1_2_2 := hc1 (w.heap.size + 1 + 1) 2 lt_auto; have cf1_2_2 := hf1 (w.heap.size + 1 + 1) 2 lt_auto; have cc1_2_3 := hc1 (w.heap.size + 1 + 1) 3 lt_auto; have cf1_2_3 := hf1 (w.heap.size + 1 + 1) 3 lt_auto; clear hc1 hf1; simp [go_sem] at cc1_0_0 cf1_0_0 cc1_0_1 cf1_0_1 cc1_0_2 cf1_0_2 cc1_0_3 cf1_0_3 cc1_1_0 cf1_1_0 cc1_1_1 cf1_1_1 cc1_1_2 cf1_1_2 cc1_1_3 cf1_1_3 cc1_2_0 cf1_2_0 cc1_2_1 cf1_2_1 cc1_2_2 cf1_2_2 cc1_2_3 cf1_2_3)
 go_wp2_with fail
 (generalize hW2 : World.setCell _ _ _ = w2; have hB2 : Below w.heap.size w w2 := (by rw [← hW2]; exact below_auto); have hS2 := congrArg (fun W => W.heap.size) hW2.symm; simp [go_sem] at hS2; have cc2_0_0 := congrArg (fun W => W.cell? ⟨w.heap.size, 0, none⟩) hW2.symm; have cf2_0_0 := congrArg (fun W => W.frozen? ⟨w.heap.size, 0, none⟩) hW2.symm; have cc2_0_1 := congrArg (fun W => W.cell? ⟨w.heap.size, 1, none⟩) hW2.symm; have cf2_0_1 := congrArg (fun W => W.frozen? ⟨w.heap.size, 1, none⟩) hW2.symm; have cc2_0_2 := congrArg (fun W => W.cell? ⟨w.heap.size, 2, none⟩) hW2.symm; have cf2_0_2 := congrArg (fun W => W.frozen? ⟨w.heap.size, 2, none⟩) hW2.symm; have cc2_0_3 := congrArg (fun W => W.cell? ⟨w.heap.size, 3, none⟩) hW2.symm; have cf2_0_3 := congrArg (fun W => W.frozen? ⟨w.heap.size, 3, none⟩) hW2.symm; have cc2_1_0 := congrArg (fun W => W.cell? ⟨w.heap.size + 1, 0, none⟩) hW2.symm; have cf2_1_0 := congrArg (fun W => W.frozen? ⟨w.heap.size + 1, 0, none⟩) hW2.symm; have cc2_1_1 := congrArg (fun W => W.cell? ⟨w.heap.size + 1, 1, none⟩) hW2.symm; have cf2_1_1 := congrArg (fun W => W.frozen? ⟨w.heap.size + 1, 1, none⟩) hW2.symm; have cc2_1_2 := congrArg (fun W => W.cell? ⟨w.heap.size + 1, 2, none⟩) hW2.symm; have cf2_1_2 := congrArg (fun W => W.frozen? ⟨w.heap.size + 1, 2, none⟩) hW2.symm; have cc2_1_3 := congrArg (fun W => W.cell? ⟨w.heap.size + 1, 3, none⟩) hW2.symm; have cf2_1_3 := congrArg (fun W => W.frozen? ⟨w.heap.size + 1, 3, none⟩) hW2.symm; have cc2_2_0 := congrArg (fun W => W.cell? ⟨w.heap.size + 1 + 1, 0, none⟩) hW2.symm; have cf2_2_0 := congrArg (fun W => W.frozen? ⟨w.heap.size + 1 + 1, 0, none⟩) hW2.symm; have cc2_2_1 := congrArg (fun W => W.cell? ⟨w.heap.size + 1 + 1, 1, none⟩) hW2.symm; have cf2_2_1 := congrArg (fun W => W.frozen? ⟨w.heap.size + 1 + 1, 1, none⟩) hW2.symm; have cc2_2_2 := congrArg (fun W => W.cell? ⟨w.heap.size + 1 + 1, 2, none⟩) hW2.symm; have cf2_2_2 := congrArg (fun W => W.frozen? ⟨w.heap.size + 1 + 1, 2, none⟩) hW2.symm; have cc2_2_3 := congrArg (fun W => W.cell? ⟨w.heap.size + 1 + 1, 3, none⟩) hW2.symm; have cf2_2_3 := congrArg (fun W => W.frozen? ⟨w.heap.size + 1 + 1, 3, none⟩) hW2.symm; clear hW2; simp [go_sem, *] at cc2_0_0; simp [go_sem, *] at cf2_0_0; simp [go_sem, *] at cc2_0_1; simp [go_sem, *] at cf2_0_1; simp [go_sem, *] at cc2_0_2; simp [go_sem, *] at cf2_0_2; simp [go_sem, *] at cc2_0_3; simp [go_sem, *] at cf2_0_3; simp [go_sem, *] at cc2_1_0; simp [go_sem, *] at cf2_1_0; simp [go_sem, *] at cc2_1_1; simp [go_sem, *] at cf2_1_1; simp [go_sem, *] at cc2_1_2; simp [go_sem, *] at cf2_1_2; simp [go_sem, *] at cc2_1_3; simp [go_sem, *] at cf2_1_3; simp [go_sem, *] at cc2_2_0; simp [go_sem, *] at cf2_2_0; simp [go_sem, *] at cc2_2_1; simp [go_sem, *] at cf2_2_1; simp [go_sem, *] at cc2_2_2; simp [go_sem, *] at cf2_2_2; simp [go_sem, *] at cc2_2_3; simp [go_sem, *] at cf2_2_3; (try have hw2_0 : w.heap.size < w2.heap.size := by omega); (try have hw2_1 : w.heap.size + 1 < w2.heap.size := by omega); (try have hw2_2 : w.heap.size + 1 + 1 < w2.heap.size := by omega); (try have hw2_3 : w.heap.size + 1 + 1 + 1 < w2.heap.size := by omega); clear hS2; (try clear hb1); (try clear hz1); (try clear hB1); (try clear cc1_0_0); (try clear cf1_0_0); (try clear cc1_0_1); (try clear cf1_0_1); (try clear cc1_0_2); (try clear cf1_0_2); (try clear cc1_0_3); (try clear cf1_0_3); (try clear cc1_1_0); (try clear cf1_1_0); (try clear cc1_1_1); (try clear cf1_1_1); (try clear cc1_1_2); (try clear cf1_1_2); (try clear cc1_1_3); (try clear cf1_1_3); (try clear cc1_2_0); (try clear cf1_2_0); (try clear cc1_2_1); (try clear cf1_2_1); (try clear cc1_2_2); (try clear cf1_2_2); (try clear cc1_2_3); (try clear cf1_2_3); (try clear hy1_0); (try clear hx1_0); (try clear hw1_0); (try clear hy1_1); (try clear hx1_1); (try clear hw1_1); (try clear hy1_2); (try clear hx1_2); (try clear hw1_2); (try clear hy1_3); (try clear hx1_3); (try clear hw1_3))
 (refine wp_region_ext (by kernel_rfl) (by kernel_rfl) ?_; (repeat (go_big_quiet_step (first | (go_at_call 171; with_reducible exact Calls.ext_same (next_any _ _))))); refine mX ?_; intro w3 hb3 hc3 hf3 hz3; intros)
 go_wp2_with fail
 refine wp_region_notes [Note.val (.pointer (some ⟨w.heap.size, 0, none⟩)), Note.val (.float .f64 l.bits), Note.val (.pointer (some ⟨w.heap.size + 1, 0, none⟩)), Note.val (.float .f64 l'.bits), Note.slc 2 2 [.float .f64 l.bits, .float .f64 l'.bits], Note.val (.float .f64 (kLeast l l').bits), Note.val (.pointer (some ⟨w.heap.size, 1, none⟩)), Note.val (.float .f64 h.bits), Note.val (.pointer (some ⟨w.heap.size + 1, 1, none⟩)), Note.val (.float .f64 h'.bits), Note.slc 2 2 [.float .f64 h.bits, .float .f64 h'.bits], Note.val (.float .f64 (kMost h h').bits), Note.val (.agg #[.float .f64 (kLeast l l').bits, .float .f64 (kMost h h').bits, .bool false, .bool false])] rfl (by kernel_rfl) (by kernel_rfl) ?_ ?_
 ·simp only [List.length_cons, List.length_nil, Nat.reduceAdd, List.take_succ_cons, List.take_zero, StepsN, List.nil_append, List.cons_append]
  refine ⟨?_, ?_, ?_, ?_, ?_, ?_, ?_, ?_, ?_, ?_, ?_, ?_, ?_, trivial⟩
  ·intro u w4 hb4 hd
   refine mB hb4 ?_; intro hc4 hf4 hz4; intros
   refine mH ?_; clear hd
   ((try simp only [forall_exists_index, and_imp]); intros)
   clear u
   go_wp2_with (first | (go_at_call 179; (with_reducible refine (most_two h h' _ _ _ (by assumption) (by assumption)).mono ?_); rintro e wy ⟨rfl, rfl⟩) | (go_at_call 178; (with_reducible refine (least_two l l' _ _ _ (by assumption) (by assumption)).mono ?_); rintro e wy ⟨rfl, rfl⟩))
   exact ⟨rfl, by exact below_auto, rfl⟩
  ·intro u w4 hb4 hd
   refine mB hb4 ?_; intro hc4 hf4 hz4; intros
   refine mH ?_; clear hd
   generalize u 0 = u0
   ((try simp only [forall_exists_index, and_imp]); intros)
   (try subst u0)
   clear u
   go_wp2_with (first | (go_at_call 179; (with_reducible refine (most_two h h' _ _ _ (by assumption) (by assumption)).mono ?_); rintro e wy ⟨rfl, rfl⟩) | (go_at_call 178; (with_reducible refine (least_two l l' _ _ _ (by assumption) (by assumption)).mono ?_); rintro e wy ⟨rfl, rfl⟩))
   exact ⟨rfl, by exact below_auto, rfl⟩
  ·intro u w4 hb4 hd
   refine mB hb4 ?_; intro hc4 hf4 hz4; intros
   refine mH ?_; clear hd
   generalize u 0 = u0
   generalize u 1 = u1
   ((try simp only [forall_exists_index, and_imp]); intros)
   (try subst u0)
   (try subst u1)
   clear u
   go_wp2_with (first | (go_at_call 179; (with_reducible refine (most_two h h' _ _ _ (by assumption) (by assumption)).mono ?_); rintro e wy ⟨rfl, rfl⟩) | (go_at_call 178; (with_reducible refine (least_two l l' _ _ _ (by assumption) (by assumption)).mono ?_); rintro e wy ⟨rfl, rfl⟩))
   exact ⟨rfl, by exact below_auto, rfl⟩
  ·intro u w4 hb4 hd
   refine mB hb4 ?_; intro hc4 hf4 hz4; intros
   refine mH ?_; clear hd
   generalize u 0 = u0
   generalize u 1 = u1
   generalize u 2 = u2
   ((try simp only [forall_exists_index, and_imp]); intros)
   (try subst u0)
   (try subst u1)
   (try subst u2)
   clear u
   go_wp2_with (first | (go_at_call 179; (with_reducible refine (most_two h h' _ _ _ (by assumption) (by assumption)).mono ?_); rintro e wy ⟨rfl, rfl⟩) | (go_at_call 178; (with_reducible refine (least_two l l' _ _ _ (by assumption) (by assumption)).mono ?_); rintro e wy ⟨rfl, rfl⟩))
   exact ⟨rfl, by exact below_auto, rfl⟩
  ·intro u w4 hb4 hd
   refine mB hb4 ?_; intro hc4 hf4 hz4; intros
   refine mH ?_; clear hd
   generalize u 0 = u0
   generalize u 1 = u1
   generalize u 2 = u2
   generalize u 3 = u3
   ((try simp only [forall_exists_index, and_imp]); intros)
   (try subst u0)
   (try subst u1)
   (try subst u2)
   (try subst u3)
   clear u
   go_wp2_with (first | (go_at_call 179; (with_reducible refine (most_two h h' _ _ _ (by assumption) (by assumption)).mono ?_); rintro e wy ⟨rfl, rfl⟩) | (go_at_call 178; (with_reducible refine (least_two l l' _ _ _ (by assumption) (by assumption)).mono ?_); rintro e wy ⟨rfl, rfl⟩))
   exact ⟨rfl, by exact below_auto, w4.heap.size, rfl, Nat.le_refl _, by simp, by simp [cellsAre, go_sem]⟩
  ·intro u w4 hb4 hd
   refine mB hb4 ?_; intro hc4 hf4 hz4; intros
   refine mH ?_; clear hd
   generalize u 0 = u0
   generalize u 1 = u1
   generalize u 2 = u2
   generalize u 3 = u3
   generalize u 4 = u4
   ((try simp only [forall_exists_index, and_imp]); intros)
   (try subst u0)
   (try subst u1)
   (try subst u2)
   (try subst u3)
   (try subst u4)
   clear u
   go_wp2_with (first | (go_at_call 179; (with_reducible refine (most_two h h' _ _ _ (by assumption) (by assumption)).mono ?_); rintro e wy ⟨rfl, rfl⟩) | (go_at_call 178; (with_reducible refine (least_two l l' _ _ _ (by assumption) (by assumption)).mono ?_); rintro e wy ⟨rfl, rfl⟩))
   exact ⟨rfl, by exact below_auto, rfl⟩
  ·intro u w4 hb4 hd
   refine mB hb4 ?_; intro hc4 hf4 hz4; intros
   refine mH ?_; clear hd
   generalize u 0 = u0
   generalize u 1 = u1
   generalize u 2 = u2
   generalize u 3 = u3
   generalize u 4 = u4
   generalize u 5 = u5
   ((try simp only [forall_exists_index, and_imp]); intros)
   (try subst u0)
   (try subst u1)
   (try subst u2)
   (try subst u3)
   (try subst u4)
   (try subst u5)
   clear u
   go_wp2_with (first | (go_at_call 179; (with_reducible refine (most_two h h' _ _ _ (by assumption) (by assumption)).mono ?_); rintro e wy ⟨rfl, rfl⟩) | (go_at_call 178; (with_reducible refine (least_two l l' _ _ _ (by assumption) (by assumption)).mono ?_); rintro e wy ⟨rfl, rfl⟩))
   exact ⟨rfl, by exact below_auto, rfl⟩
  ·intro u w4 hb4 hd
   refine mB hb4 ?_; intro hc4 hf4 hz4; intros
   refine mH ?_; clear hd
   generalize u 0 = u0
   generalize u 1 = u1
   generalize u 2 = u2
   generalize u 3 = u3
   generalize u 4 = u4
   generalize u 5 = u5
   generalize u 6 = u6
   ((try simp only [forall_exists_index, and_imp]); intros)
   (try subst u0)
   (try subst u1)
   (try subst u2)
   (try subst u3)
   (try subst u4)
   (try subst u5)
   (try subst u6)
   clear u
   go_wp2_with (first | (go_at_call 179; (with_reducible refine (most_two h h' _ _ _ (by assumption) (by assumption)).mono ?_); rintro e wy ⟨rfl, rfl⟩) | (go_at_call 178; (with_reducible refine (least_two l l' _ _ _ (by assumption) (by assumption)).mono ?_); rintro e wy ⟨rfl, rfl⟩))
   exact ⟨rfl, by exact below_auto, rfl⟩
  ·intro u w4 hb4 hd
   refine mB hb4 ?_; intro hc4 hf4 hz4; intros
   refine mH ?_; clear hd
   generalize u 0 = u0
   generalize u 1 = u1
   generalize u 2 = u2
   generalize u 3 = u3
   generalize u 4 = u4
   generalize u 5 = u5
   generalize u 6 = u6
   generalize u 7 = u7
   ((try simp only [forall_exists_index, and_imp]); intros)
   (try subst u0)
   (try subst u1)
   (try subst u2)
   (try subst u3)
   (try subst u4)
   (try subst u5)
   (try subst u6)
   (try subst u7)
   clear u
   go_wp2_with (first | (go_at_call 179; (with_reducible refine (most_two h h' _ _ _ (by assumption) (by assumption)).mono ?_); rintro e wy ⟨rfl, rfl⟩) | (go_at_call 178; (with_reducible refine (least_two l l' _ _ _ (by assumption) (by assumption)).mono ?_); rintro e wy ⟨rfl, rfl⟩))
   exact ⟨rfl, by exact below_auto, rfl⟩
  ·intro u w4 hb4 hd
   refine mB hb4 ?_; intro hc4 hf4 hz4; intros
   refine mH ?_; clear hd
   generalize u 0 = u0
   generalize u 1 = u1
   generalize u 2 = u2
   generalize u 3 = u3
   generalize u 4 = u4
   generalize u 5 = u5
   generalize u 6 = u6
   generalize u 7 = u7
   generalize u 8 = u8
   ((try simp only [forall_exists_index, and_imp]); intros)
   (try subst u0)
   (try subst u1)
   (try subst u2)
   (try subst u3)
   (try subst u4)
   (try subst u5)
   (try subst u6)
   (try subst u7)
   (try subst u8)
   clear u
   go_wp2_with (first | (go_at_call 179; (with_reducible refine (most_two h h' _ _ _ (by assumption) (by assumption)).mono ?_); rintro e wy ⟨rfl, rfl⟩) | (go_at_call 178; (with_reducible refine (least_two l l' _ _ _ (by assumption) (by assumption)).mono ?_); rintro e wy ⟨rfl, rfl⟩))
   exact ⟨rfl, by exact below_auto, rfl⟩
  ·intro u w4 hb4 hd
   refine mB hb4 ?_; intro hc4 hf4 hz4; intros
   refine mH ?_; clear hd
   generalize u 0 = u0
   generalize u 1 = u1
   generalize u 2 = u2
   generalize u 3 = u3
   generalize u 4 = u4
   generalize u 5 = u5
   generalize u 6 = u6
   generalize u 7 = u7
   generalize u 8 = u8
   generalize u 9 = u9
   ((try simp only [forall_exists_index, and_imp]); intros)
   (try subst u0)
   (try subst u1)
   (try subst u2)
   (try subst u3)
   (try subst u4)
   (try subst u5)
   (try subst u6)
   (try subst u7)
   (try subst u8)
   (try subst u9)
   clear u
   go_wp2_with (first | (go_at_call 179; (with_reducible refine (most_two h h' _ _ _ (by assumption) (by assumption)).mono ?_); rintro e wy ⟨rfl, rfl⟩) | (go_at_call 178; (with_reducible refine (least_two l l' _ _ _ (by assumption) (by assumption)).mono ?_); rintro e wy ⟨rfl, rfl⟩))
   exact ⟨rfl, by exact below_auto, w4.heap.size, rfl, Nat.le_refl _, by simp, by simp [cellsAre, go_sem]⟩
  ·intro u w4 hb4 hd
   refine mB hb4 ?_; intro hc4 hf4 hz4; intros
   refine mH ?_; clear hd
   generalize u 0 = u0
   generalize u 1 = u1
   generalize u 2 = u2
   generalize u 3 = u3
   generalize u 4 = u4
   generalize u 5 = u5
   generalize u 6 = u6
   generalize u 7 = u7
   generalize u 8 = u8
   generalize u 9 = u9
   generalize u 10 = u10
   ((try simp only [forall_exists_index, and_imp]); intros)
   (try subst u0)
   (try subst u1)
   (try subst u2)
   (try subst u3)
   (try subst u4)
   (try subst u5)
   (try subst u6)
   (try subst u7)
   (try subst u8)
   (try subst u9)
   (try subst u10)
   clear u
   go_wp2_with (first | (go_at_call 179; (with_reducible refine (most_two h h' _ _ _ (by assumption) (by assumption)).mono ?_); rintro e wy ⟨rfl, rfl⟩) | (go_at_call 178; (with_reducible refine (least_two l l' _ _ _ (by assumption) (by assumption)).mono ?_); rintro e wy ⟨rfl, rfl⟩))
   exact ⟨rfl, by exact below_auto, rfl⟩
  ·intro u w4 hb4 hd
   refine mB hb4 ?_; intro hc4 hf4 hz4; intros
   refine mH ?_; clear hd
   generalize u 0 = u0
   generalize u 1 = u1
   generalize u 2 = u2
   generalize u 3 = u3
   generalize u 4 = u4
   generalize u 5 = u5
   generalize u 6 = u6
   generalize u 7 = u7
   generalize u 8 = u8
   generalize u 9 = u9
   generalize u 10 = u10
   generalize u 11 = u11
   ((try simp only [forall_exists_index, and_imp]); intros)
   (try subst u0)
   (try subst u1)
   (try subst u2)
   (try subst u3)
   (try subst u4)
   (try subst u5)
   (try subst u6)
   (try subst u7)
   (try subst u8)
   (try subst u9)
   (try subst u10)
   (try subst u11)
   clear u
   go_wp2_with (first | (go_at_call 179; (with_reducible refine (most_two h h' _ _ _ (by assumption) (by assumption)).mono ?_); rintro e wy ⟨rfl, rfl⟩) | (go_at_call 178; (with_reducible refine (least_two l l' _ _ _ (by assumption) (by assumption)).mono ?_); rintro e wy ⟨rfl, rfl⟩))
   exact ⟨rfl, by exact below_auto, rfl⟩
 ·intro u w4 hb4 hph hap
  refine mB hb4 ?_; intro hc4 hf4 hz4; intros
  have hp0 := hph 0 (by simp)
  have hp1 := hph 1 (by simp)
  have hp2 := hph 2 (by simp)
  have hp3 := hph 3 (by simp)
  have hp4 := hph 4 (by simp)
  have hp5 := hph 5 (by simp)
  have hp6 := hph 6 (by simp)
  have hp7 := hph 7 (by simp)
  have hp8 := hph 8 (by simp)
  have hp9 := hph 9 (by simp)
  have hp10 := hph 10 (by simp)
  have hp11 := hph 11 (by simp)
  have hp12 := hph 12 (by simp)
  have ha4_10 := hap 4 10 (by simp) (by simp) (by decide) rfl rfl
  have ha10_4 := hap 10 4 (by simp) (by simp) (by decide) rfl rfl
  clear hph hap
  refine mP ?_
  generalize u 0 = u0 at *
  generalize u 1 = u1 at *
  generalize u 2 = u2 at *
  generalize u 3 = u3 at *
  generalize u 4 = u4 at *
  generalize u 5 = u5 at *
  generalize u 6 = u6 at *
  generalize u 7 = u7 at *
  generalize u 8 = u8 at *
  generalize u 9 = u9 at *
  generalize u 10 = u10 at *
  generalize u 11 = u11 at *
  generalize u 12 = u12 at *
  clear u
  cases hp0
  cases hp1
  cases hp2
  cases hp3
  obtain ⟨B4, rfl, hl4, hg4, hs4⟩ := hp4
  (try simp only [cellsAre, and_true] at hs4)
  cases hp5
  cases hp6
  cases hp7
  cases hp8
  cases hp9
  obtain ⟨B10, rfl, hl10, hg10, hs10⟩ := hp10
  (try simp only [cellsAre, and_true] at hs10)
  cases hp11
  cases hp12
  simp only [blkOf, ne_eq, Option.some.injEq] at ha4_10
  simp only [blkOf, ne_eq, Option.some.injEq] at ha10_4
  go_wp2_with fail
  exact bodyPost_ret (v := .tuple #[.agg #[.float .f64 (kLeast l l').bits, .float .f64 (kMost h h').bits, .bool false, .bool false], .bool true]) (by simp [results, Tryz.results149, go_sem, *]) rfl ⟨rfl, by exact below_auto⟩

end Go.Proofs.YtfbachckdadhoaaGreat
namespace Go.Proofs.YtfbachckdadhoaaGreat
set_option linter.unusedVariables false
open Go.RowKit Fl

def joinR : Rg → Rg → Rg × Bool
 | none, r => (r, true)
 | some x, none => (some x, true)
 | some (l, h), some (l', h') => if flt (knext h).bits l'.bits = true then (none, false) else if flt (knext h').bits l.bits = true then (none, false) else (some (kLeast l l', kMost h h'), true)

theorem join_any (lo hi lo' hi' : Nat) (a b a' b' : Bool) (w : World) (hl : lo < 2 ^ 64) (hh : hi < 2 ^ 64) (hl' : lo' < 2 ^ 64) (hh' : hi' < 2 ^ 64) :
  Calls Tryz.prog 149 #[.agg #[.float .f64 lo, .float .f64 hi, .bool a, .bool b], .agg #[.float .f64 lo', .float .f64 hi', .bool a', .bool b']] w
   (Ret (.tuple #[spv (joinR (canonS lo hi a b) (canonS lo' hi' a' b')).1, .bool (joinR (canonS lo hi a b) (canonS lo' hi' a' b')).2]) w) := by
 rcases hr : canonS lo hi a b with _ | ⟨l, h⟩ <;> rcases hr' : canonS lo' hi' a' b' with _ | ⟨l', h'⟩
 ·exact join_nn lo hi lo' hi' a b a' b' w hl hh hl' hh' (hid hr) (hid hr')
 ·exact join_ns lo hi lo' hi' a b a' b' w hl hh hl' hh' (hid hr) l' h' (hid hr')
 ·exact join_sn lo hi lo' hi' a b a' b' w hl hh hl' hh' l h (hid hr) (hid hr')
 ·simp only [joinR]
  cases F1 : flt (knext h).bits l'.bits
  ·cases F2 : flt (knext h').bits l.bits
   ·exact join_ssC lo hi lo' hi' a b a' b' w hl hh hl' hh' l h (hid hr) l' h' (hid hr') F1 F2
   ·exact join_ssB lo hi lo' hi' a b a' b' w hl hh hl' hh' l h (hid hr) l' h' (hid hr') F1 F2
  ·exact join_ssA lo hi lo' hi' a b a' b' w hl hh hl' hh' l h (hid hr) l' h' (hid hr') F1

theorem meetR_le {x y : Rg} {l h : Key} (e : meetR x y = some (l, h)) : l.v ≤ h.v := by
 rcases x with _ | ⟨l1, h1⟩ <;> rcases y with _ | ⟨l2, h2⟩ <;> simp only [meetR] at e
 ·cases e
 ·cases e
 ·cases e
 ·exact canonS_le e

def withinB : Rg → Rg → Bool
 | none, none => true
 | some (l2, h2), some (l, h) => feq l2.bits l.bits && feq h2.bits h.bits
 | _, _ => false

end Go.Proofs.YtfbachckdadhoaaGreat
namespace Go.Proofs.YtfbachckdadhoaaGreat
set_option linter.unusedVariables false
open Go.RowKit Fl

set_option maxRecDepth 100000 in
theorem refCmp_nn (w : World) :
  Calls Tryz.prog 82 #[.agg #[.int .u64 1, .int .u64 0], .agg #[.int .u64 1, .int .u64 0]] w (Ret (.int .i64 0) w) := by
 go_enter Tryz.func82, Tryz.ntmps82
 go_wp2_with (first | (go_at_call 35; (with_reducible refine (refEmpty_none _).mono ?_); rintro e w1 ⟨rfl, hb1⟩; refine mB hb1 ?_; intro hc1 hf1 hz1; intros))
 go_ret
 exact ⟨ret_int rfl, by exact below_auto⟩

set_option maxRecDepth 100000 in
theorem refCmp_ns (l' h' : Key) (H2 : Hid (l'.v ≤ h'.v)) (w : World) :
  Calls Tryz.prog 82 #[.agg #[.int .u64 1, .int .u64 0], .agg #[.int .u64 (kcode l'), .int .u64 (kcode h')]] w (Ret (.int .i64 (-1)) w) := by
 go_enter Tryz.func82, Tryz.ntmps82
 go_wp2_with (first | (go_at_call 35; (with_reducible refine (refEmpty_none _).mono ?_); rintro e w1 ⟨rfl, hb1⟩; refine mB hb1 ?_; intro hc1 hf1 hz1; intros) | (go_at_call 35; (with_reducible refine (refEmpty_some l' h' H2 _).mono ?_); rintro e w3 ⟨rfl, hb3⟩; refine mB hb3 ?_; intro hc3 hf3 hz3; intros))
 go_ret
 exact ⟨ret_int rfl, by exact below_auto⟩

set_option maxRecDepth 100000 in
theorem refCmp_sn (l h : Key) (H1 : Hid (l.v ≤ h.v)) (w : World) :
  Calls Tryz.prog 82 #[.agg #[.int .u64 (kcode l), .int .u64 (kcode h)], .agg #[.int .u64 1, .int .u64 0]] w (Ret (.int .i64 1) w) := by
 go_enter Tryz.func82, Tryz.ntmps82
 go_wp2_with (first | (go_at_call 35; (with_reducible refine (refEmpty_none _).mono ?_); rintro e w1 ⟨rfl, hb1⟩; refine mB hb1 ?_; intro hc1 hf1 hz1; intros) | (go_at_call 35; (with_reducible refine (refEmpty_some l h H1 _).mono ?_); rintro e w2 ⟨rfl, hb2⟩; refine mB hb2 ?_; intro hc2 hf2 hz2; intros))
 go_ret
 exact ⟨ret_int rfl, by exact below_auto⟩

set_option maxRecDepth 100000 in
theorem refCmp_sA (l h : Key) (H1 : Hid (l.v ≤ h.v)) (l' h' : Key) (H2 : Hid (l'.v ≤ h'.v)) (T1 : decide (kcode l < kcode l') = true) (w : World) :
  Calls Tryz.prog 82 #[.agg #[.int .u64 (kcode l), .int .u64 (kcode h)], .agg #[.int .u64 (kcode l'), .int .u64 (kcode h')]] w (Ret (.int .i64 (-1)) w) := by
 go_enter Tryz.func82, Tryz.ntmps82
 go_wp2_with (first | (go_at_call 35; (with_reducible refine (refEmpty_some l h H1 _).mono ?_); rintro e w2 ⟨rfl, hb2⟩; refine mB hb2 ?_; intro hc2 hf2 hz2; intros) | (go_at_call 35; (with_reducible refine (refEmpty_some l' h' H2 _).mono ?_); rintro e w3 ⟨rfl, hb3⟩; refine mB hb3 ?_; intro hc3 hf3 hz3; intros))
 go_ret
 exact ⟨ret_int rfl, by exact below_auto⟩

set_option maxRecDepth 100000 in
theorem refCmp_sB (l h : Key) (H1 : Hid (l.v ≤ h.v)) (l' h' : Key) (H2 : Hid (l'.v ≤ h'.v)) (T1 : decide (kcode l < kcode l') = false) (T2 : (kcode l == kcode l') = true) (T3 : decide (kcode h < kcode h') = true) (w : World) :
  Calls Tryz.prog 82 #[.agg #[.int .u64 (kcode l), .int .u64 (kcode h)], .agg #[.int .u64 (kcode l'), .int .u64 (kcode h')]] w (Ret (.int .i64 (-1)) w) := by
 go_enter Tryz.func82, Tryz.ntmps82
 go_wp2_with (first | (go_at_call 35; (with_reducible refine (refEmpty_some l h H1 _).mono ?_); rintro e w2 ⟨rfl, hb2⟩; refine mB hb2 ?_; intro hc2 hf2 hz2; intros) | (go_at_call 35; (with_reducible refine (refEmpty_some l' h' H2 _).mono ?_); rintro e w3 ⟨rfl, hb3⟩; refine mB hb3 ?_; intro hc3 hf3 hz3; intros))
 go_ret
 exact ⟨ret_int rfl, by exact below_auto⟩

set_option maxRecDepth 100000 in
theorem refCmp_sC (l h : Key) (H1 : Hid (l.v ≤ h.v)) (l' h' : Key) (H2 : Hid (l'.v ≤ h'.v)) (T1 : decide (kcode l < kcode l') = false) (T2 : (kcode l == kcode l') = true) (T3 : decide (kcode h < kcode h') = false) (T4 : (kcode h == kcode h') = true) (w : World) :
  Calls Tryz.prog 82 #[.agg #[.int .u64 (kcode l), .int .u64 (kcode h)], .agg #[.int .u64 (kcode l'), .int .u64 (kcode h')]] w (Ret (.int .i64 0) w) := by
 go_enter Tryz.func82, Tryz.ntmps82
 go_wp2_with (first | (go_at_call 35; (with_reducible refine (refEmpty_some l h H1 _).mono ?_); rintro e w2 ⟨rfl, hb2⟩; refine mB hb2 ?_; intro hc2 hf2 hz2; intros) | (go_at_call 35; (with_reducible refine (refEmpty_some l' h' H2 _).mono ?_); rintro e w3 ⟨rfl, hb3⟩; refine mB hb3 ?_; intro hc3 hf3 hz3; intros))
 go_ret
 exact ⟨ret_int rfl, by exact below_auto⟩

set_option maxRecDepth 100000 in
theorem refCmp_sD (l h : Key) (H1 : Hid (l.v ≤ h.v)) (l' h' : Key) (H2 : Hid (l'.v ≤ h'.v)) (T1 : decide (kcode l < kcode l') = false) (T2 : (kcode l == kcode l') = true) (T3 : decide (kcode h < kcode h') = false) (T4 : (kcode h == kcode h') = false) (w : World) :
  Calls Tryz.prog 82 #[.agg #[.int .u64 (kcode l), .int .u64 (kcode h)], .agg #[.int .u64 (kcode l'), .int .u64 (kcode h')]] w (Ret (.int .i64 1) w) := by
 go_enter Tryz.func82, Tryz.ntmps82
 go_wp2_with (first | (go_at_call 35; (with_reducible refine (refEmpty_some l h H1 _).mono ?_); rintro e w2 ⟨rfl, hb2⟩; refine mB hb2 ?_; intro hc2 hf2 hz2; intros) | (go_at_call 35; (with_reducible refine (refEmpty_some l' h' H2 _).mono ?_); rintro e w3 ⟨rfl, hb3⟩; refine mB hb3 ?_; intro hc3 hf3 hz3; intros))
 go_ret
 exact ⟨ret_int rfl, by exact below_auto⟩

set_option maxRecDepth 100000 in
theorem refCmp_sE (l h : Key) (H1 : Hid (l.v ≤ h.v)) (l' h' : Key) (H2 : Hid (l'.v ≤ h'.v)) (T1 : decide (kcode l < kcode l') = false) (T2 : (kcode l == kcode l') = false) (w : World) :
  Calls Tryz.prog 82 #[.agg #[.int .u64 (kcode l), .int .u64 (kcode h)], .agg #[.int .u64 (kcode l'), .int .u64 (kcode h')]] w (Ret (.int .i64 1) w) := by
 go_enter Tryz.func82, Tryz.ntmps82
 go_wp2_with (first | (go_at_call 35; (with_reducible refine (refEmpty_some l h H1 _).mono ?_); rintro e w2 ⟨rfl, hb2⟩; refine mB hb2 ?_; intro hc2 hf2 hz2; intros) | (go_at_call 35; (with_reducible refine (refEmpty_some l' h' H2 _).mono ?_); rintro e w3 ⟨rfl, hb3⟩; refine mB hb3 ?_; intro hc3 hf3 hz3; intros))
 go_ret
 exact ⟨ret_int rfl, by exact below_auto⟩

theorem cmpR_ss (l h l' h' : Key) : cmpR (some (l, h)) (some (l', h')) = if l.v < l'.v then -1 else if l'.v < l.v then 1 else if h.v < h'.v then -1 else if h'.v < h.v then 1 else 0 := by
 unfold cmpR orI cmpI
 by_cases h1 : l.v < l'.v
 ·simp [h1]
 ·by_cases h2 : l'.v < l.v
  ·simp [h1, h2]
  ·simp [h1, h2]

theorem refCmp_ss (l h l' h' : Key) (H1 : Hid (l.v ≤ h.v)) (H2 : Hid (l'.v ≤ h'.v)) (w : World) :
  Calls Tryz.prog 82 #[.agg #[.int .u64 (kcode l), .int .u64 (kcode h)], .agg #[.int .u64 (kcode l'), .int .u64 (kcode h')]] w (Ret (.int .i64 (cmpR (some (l, h)) (some (l', h')))) w) := by
 rw [cmpR_ss]
 have e1 := kcode_lt l l'; have e2 := kcode_eq l l'; have e3 := kcode_lt h h'; have e4 := kcode_eq h h'
 by_cases c1 : l.v < l'.v
 ·rw [if_pos c1]
  exact refCmp_sA l h H1 l' h' H2 (by simp [e1, c1]) w
 ·rw [if_neg c1]
  by_cases c2 : l'.v < l.v
  ·rw [if_pos c2]
   exact refCmp_sE l h H1 l' h' H2 (by rw [decide_eq_false_iff_not, e1]; exact c1) (by rw [beq_eq_false_iff_ne, Ne, e2]; omega) w
  ·rw [if_neg c2]
   have T1 : decide (kcode l < kcode l') = false := by rw [decide_eq_false_iff_not, e1]; exact c1
   have T2 : (kcode l == kcode l') = true := by rw [beq_iff_eq, e2]; omega
   by_cases c3 : h.v < h'.v
   ·rw [if_pos c3]
    exact refCmp_sB l h H1 l' h' H2 T1 T2 (by simp [e3, c3]) w
   ·rw [if_neg c3]
    have T3 : decide (kcode h < kcode h') = false := by rw [decide_eq_false_iff_not, e3]; exact c3
    by_cases c4 : h'.v < h.v
    ·rw [if_pos c4]
     exact refCmp_sD l h H1 l' h' H2 T1 T2 T3 (by rw [beq_eq_false_iff_ne, Ne, e4]; omega) w
    ·rw [if_neg c4]
     exact refCmp_sC l h H1 l' h' H2 T1 T2 T3 (by rw [beq_iff_eq, e4]; omega) w
end Go.Proofs.YtfbachckdadhoaaGreat
namespace Go.Proofs.YtfbachckdadhoaaGreat
set_option linter.unusedVariables false
open Go.RowKit Fl

end Go.Proofs.YtfbachckdadhoaaGreat
namespace Go.Proofs.YtfbachckdadhoaaGreat
set_option linter.unusedVariables false
open Go.RowKit Fl

def rnext (k : Key) : Int := if isCode (kcode k + 1) = true then kcode k + 1 else kcode k + 2

theorem refNext_key (k : Key) (w : World) :
  Calls Tryz.prog 140 #[.int .u64 (kcode k)] w (Ret (.int .u64 (rnext k)) w) := by
 have b1 := kcode_lo k
 have b2 := kcode_hi k
 have W1 : IntKind.u64.wrap (kcode k + 1) = kcode k + 1 := by rw [IntKind.wrap_u64]; omega
 have W2 : IntKind.u64.wrap (kcode k + 2) = kcode k + 2 := by rw [IntKind.wrap_u64]; omega
 have g1 : 0 ≤ kcode k + 1 := by omega
 have g2 : kcode k + 1 ≤ 18446744073709551615 := by omega
 clear b1 b2
 cases c : isCode (kcode k + 1)
 ·have e : rnext k = kcode k + 2 := by simp [rnext, c]
  rw [e]
  clear e
  go_enter Tryz.func140, Tryz.ntmps140
  go_wp2_with (first | (go_at_call 87; (with_reducible refine (refIsCode_any _ g1 g2 _).mono ?_); rintro e w' ⟨rfl, rfl⟩))
  go_ret
  exact ⟨rfl, by exact below_auto⟩
 ·have e : rnext k = kcode k + 1 := by simp [rnext, c]
  rw [e]
  clear e
  go_enter Tryz.func140, Tryz.ntmps140
  go_wp2_with (first | (go_at_call 87; (with_reducible refine (refIsCode_any _ g1 g2 _).mono ?_); rintro e w' ⟨rfl, rfl⟩))
  go_ret
  exact ⟨rfl, by exact below_auto⟩

theorem refJoin_nn (w : World) :
  Calls Tryz.prog 92 #[.agg #[.int .u64 1, .int .u64 0], .agg #[.int .u64 1, .int .u64 0]] w (Ret (.tuple #[.agg #[.int .u64 1, .int .u64 0], .bool true]) w) := by
 go_enter Tryz.func92, Tryz.ntmps92
 go_wp2_with (first | (go_at_call 35; (with_reducible refine (refEmpty_none _).mono ?_); rintro e w1 ⟨rfl, hb1⟩; refine mB hb1 ?_; intro hc1 hf1 hz1; intros))
 exact bodyPost_ret (v := .tuple #[.agg #[.int .u64 1, .int .u64 0], .bool true]) (by simp [results, Tryz.results92, go_sem, *]) rfl ⟨rfl, by exact below_auto⟩

theorem refJoin_ns (l' h' : Key) (H2 : Hid (l'.v ≤ h'.v)) (w : World) :
  Calls Tryz.prog 92 #[.agg #[.int .u64 1, .int .u64 0], .agg #[.int .u64 (kcode l'), .int .u64 (kcode h')]] w (Ret (.tuple #[.agg #[.int .u64 (kcode l'), .int .u64 (kcode h')], .bool true]) w) := by
 go_enter Tryz.func92, Tryz.ntmps92
 go_wp2_with (first | (go_at_call 35; (with_reducible refine (refEmpty_none _).mono ?_); rintro e w1 ⟨rfl, hb1⟩; refine mB hb1 ?_; intro hc1 hf1 hz1; intros) | (go_at_call 35; (with_reducible refine (refEmpty_some l' h' H2 _).mono ?_); rintro e w3 ⟨rfl, hb3⟩; refine mB hb3 ?_; intro hc3 hf3 hz3; intros))
 exact bodyPost_ret (v := .tuple #[.agg #[.int .u64 (kcode l'), .int .u64 (kcode h')], .bool true]) (by simp [results, Tryz.results92, go_sem, *]) rfl ⟨rfl, by exact below_auto⟩

theorem refJoin_sn (l h : Key) (H1 : Hid (l.v ≤ h.v)) (w : World) :
  Calls Tryz.prog 92 #[.agg #[.int .u64 (kcode l), .int .u64 (kcode h)], .agg #[.int .u64 1, .int .u64 0]] w (Ret (.tuple #[.agg #[.int .u64 (kcode l), .int .u64 (kcode h)], .bool true]) w) := by
 go_enter Tryz.func92, Tryz.ntmps92
 go_wp2_with (first | (go_at_call 35; (with_reducible refine (refEmpty_none _).mono ?_); rintro e w1 ⟨rfl, hb1⟩; refine mB hb1 ?_; intro hc1 hf1 hz1; intros) | (go_at_call 35; (with_reducible refine (refEmpty_some l h H1 _).mono ?_); rintro e w2 ⟨rfl, hb2⟩; refine mB hb2 ?_; intro hc2 hf2 hz2; intros))
 exact bodyPost_ret (v := .tuple #[.agg #[.int .u64 (kcode l), .int .u64 (kcode h)], .bool true]) (by simp [results, Tryz.results92, go_sem, *]) rfl ⟨rfl, by exact below_auto⟩

theorem refJoin_ssA (l h : Key) (H1 : Hid (l.v ≤ h.v)) (l' h' : Key) (H2 : Hid (l'.v ≤ h'.v)) (N1 : decide (rnext h < kcode l') = true) (w : World) :
  Calls Tryz.prog 92 #[.agg #[.int .u64 (kcode l), .int .u64 (kcode h)], .agg #[.int .u64 (kcode l'), .int .u64 (kcode h')]] w (Ret (.tuple #[.agg #[.int .u64 1, .int .u64 0], .bool false]) w) := by
 go_enter Tryz.func92, Tryz.ntmps92
 go_wp2_with (first | (go_at_call 35; (with_reducible refine (refEmpty_some l h H1 _).mono ?_); rintro e w2 ⟨rfl, hb2⟩; refine mB hb2 ?_; intro hc2 hf2 hz2; intros) | (go_at_call 35; (with_reducible refine (refEmpty_some l' h' H2 _).mono ?_); rintro e w3 ⟨rfl, hb3⟩; refine mB hb3 ?_; intro hc3 hf3 hz3; intros))
 (refine wp_region_ext (by kernel_rfl) (by kernel_rfl) ?_; (repeat (go_big_quiet_step (first | (go_at_call 140; with_reducible exact Calls.ext_of (refNext_key _ _))))); refine mX ?_; intro w4 hb4 hc4 hf4 hz4; intros)
 (have cc4_0_0 := hc4 (w.heap.size) 0 lt_auto; have cf4_0_0 := hf4 (w.heap.size) 0 lt_auto; have cc4_0_1 := hc4 (w.heap.size) 1 lt_auto; have cf4_0_1 := hf4 (w.heap.size) 1 lt_auto; have cc4_1_0 := hc4 (w.heap.size + 1) 0 lt_auto; have cf4_1_0 := hf4 (w.heap.size + 1) 0 lt_auto; have cc4_1_1 := hc4 (w.heap.size + 1) 1 lt_auto; have cf4_1_1 := hf4 (w.heap.size + 1) 1 lt_auto; have cc4_2_0 := hc4 (w.heap.size + 1 + 1) 0 lt_auto; have cf4_2_0 := hf4 (w.heap.size + 1 + 1) 0 lt_auto; have cc4_2_1 := hc4 (w.heap.size + 1 + 1) 1 lt_auto; have cf4_2_1 := hf4 (w.heap.size + 1 + 1) 1 lt_auto; clear hc4 hf4; simp [go_sem, *] at cc4_0_0 cf4_0_0 cc4_0_1 cf4_0_1 cc4_1_0 cf4_1_0 cc4_1_1 cf4_1_1 cc4_2_0 cf4_2_0 cc4_2_1 cf4_2_1)
 go_wp2_with (first | (go_at_call 85; (with_reducible refine (refNone_any _).mono ?_); rintro e w5 ⟨rfl, hb5⟩; refine mB hb5 ?_; intro hc5 hf5 hz5; intros))
 exact bodyPost_ret (v := .tuple #[.agg #[.int .u64 1, .int .u64 0], .bool false]) (by simp [results, Tryz.results92, go_sem, *]) rfl ⟨rfl, by exact below_auto⟩

theorem refJoin_ssB (l h : Key) (H1 : Hid (l.v ≤ h.v)) (l' h' : Key) (H2 : Hid (l'.v ≤ h'.v)) (N1 : decide (rnext h < kcode l') = false) (N2 : decide (rnext h' < kcode l) = true) (w : World) :
  Calls Tryz.prog 92 #[.agg #[.int .u64 (kcode l), .int .u64 (kcode h)], .agg #[.int .u64 (kcode l'), .int .u64 (kcode h')]] w (Ret (.tuple #[.agg #[.int .u64 1, .int .u64 0], .bool false]) w) := by
 go_enter Tryz.func92, Tryz.ntmps92
 go_wp2_with (first | (go_at_call 35; (with_reducible refine (refEmpty_some l h H1 _).mono ?_); rintro e w2 ⟨rfl, hb2⟩; refine mB hb2 ?_; intro hc2 hf2 hz2; intros) | (go_at_call 35; (with_reducible refine (refEmpty_some l' h' H2 _).mono ?_); rintro e w3 ⟨rfl, hb3⟩; refine mB hb3 ?_; intro hc3 hf3 hz3; intros))
 (refine wp_region_ext (by kernel_rfl) (by kernel_rfl) ?_; (repeat (go_big_quiet_step (first | (go_at_call 140; with_reducible exact Calls.ext_of (refNext_key _ _))))); refine mX ?_; intro w4 hb4 hc4 hf4 hz4; intros)
 (have cc4_0_0 := hc4 (w.heap.size) 0 lt_auto; have cf4_0_0 := hf4 (w.heap.size) 0 lt_auto; have cc4_0_1 := hc4 (w.heap.size) 1 lt_auto; have cf4_0_1 := hf4 (w.heap.size) 1 lt_auto; have cc4_1_0 := hc4 (w.heap.size + 1) 0 lt_auto; have cf4_1_0 := hf4 (w.heap.size + 1) 0 lt_auto; have cc4_1_1 := hc4 (w.heap.size + 1) 1 lt_auto; have cf4_1_1 := hf4 (w.heap.size + 1) 1 lt_auto; have cc4_2_0 := hc4 (w.heap.size + 1 + 1) 0 lt_auto; have cf4_2_0 := hf4 (w.heap.size + 1 + 1) 0 lt_auto; have cc4_2_1 := hc4 (w.heap.size + 1 + 1) 1 lt_auto; have cf4_2_1 := hf4 (w.heap.size + 1 + 1) 1 lt_auto; clear hc4 hf4; simp [go_sem, *] at cc4_0_0 cf4_0_0 cc4_0_1 cf4_0_1 cc4_1_0 cf4_1_0 cc4_1_1 cf4_1_1 cc4_2_0 cf4_2_0 cc4_2_1 cf4_2_1)
 go_wp2_with (first | (go_at_call 85; (with_reducible refine (refNone_any _).mono ?_); rintro e w5 ⟨rfl, hb5⟩; refine mB hb5 ?_; intro hc5 hf5 hz5; intros))
 exact bodyPost_ret (v := .tuple #[.agg #[.int .u64 1, .int .u64 0], .bool false]) (by simp [results, Tryz.results92, go_sem, *]) rfl ⟨rfl, by exact below_auto⟩

theorem refJoin_ssC11 (l h : Key) (H1 : Hid (l.v ≤ h.v)) (l' h' : Key) (H2 : Hid (l'.v ≤ h'.v)) (N1 : decide (rnext h < kcode l') = false) (N2 : decide (rnext h' < kcode l) = false) (T1 : decide (kcode l' < kcode l) = true) (T2 : decide (kcode h < kcode h') = true) (w : World) :
  Calls Tryz.prog 92 #[.agg #[.int .u64 (kcode l), .int .u64 (kcode h)], .agg #[.int .u64 (kcode l'), .int .u64 (kcode h')]] w (Ret (.tuple #[.agg #[.int .u64 (kcode l'), .int .u64 (kcode h')], .bool true]) w) := by
 go_enter Tryz.func92, Tryz.ntmps92
 go_wp2_with (first | (go_at_call 35; (with_reducible refine (refEmpty_some l h H1 _).mono ?_); rintro e w2 ⟨rfl, hb2⟩; refine mB hb2 ?_; intro hc2 hf2 hz2; intros) | (go_at_call 35; (with_reducible refine (refEmpty_some l' h' H2 _).mono ?_); rintro e w3 ⟨rfl, hb3⟩; refine mB hb3 ?_; intro hc3 hf3 hz3; intros))
 (refine wp_region_ext (by kernel_rfl) (by kernel_rfl) ?_; (repeat (go_big_quiet_step (first | (go_at_call 140; with_reducible exact Calls.ext_of (refNext_key _ _))))); refine mX ?_; intro w4 hb4 hc4 hf4 hz4; intros)
 (have cc4_0_0 := hc4 (w.heap.size) 0 lt_auto; have cf4_0_0 := hf4 (w.heap.size) 0 lt_auto; have cc4_0_1 := hc4 (w.heap.size) 1 lt_auto; have cf4_0_1 := hf4 (w.heap.size) 1 lt_auto; have cc4_1_0 := hc4 (w.heap.size + 1) 0 lt_auto; have cf4_1_0 := hf4 (w.heap.size + 1) 0 lt_auto; have cc4_1_1 := hc4 (w.heap.size + 1) 1 lt_auto; have cf4_1_1 := hf4 (w.heap.size + 1) 1 lt_auto; have cc4_2_0 := hc4 (w.heap.size + 1 + 1) 0 lt_auto; have cf4_2_0 := hf4 (w.heap.size + 1 + 1) 0 lt_auto; have cc4_2_1 := hc4 (w.heap.size + 1 + 1) 1 lt_auto; have cf4_2_1 := hf4 (w.heap.size + 1 + 1) 1 lt_auto; clear hc4 hf4; simp [go_sem, *] at cc4_0_0 cf4_0_0 cc4_0_1 cf4_0_1 cc4_1_0 cf4_1_0 cc4_1_1 cf4_1_1 cc4_2_0 cf4_2_0 cc4_2_1 cf4_2_1)
 go_wp2_with (first | (go_at_call 85; (with_reducible refine (refNone_any _).mono ?_); rintro e w5 ⟨rfl, hb5⟩; refine mB hb5 ?_; intro hc5 hf5 hz5; intros))
 exact bodyPost_ret (v := .tuple #[.agg #[.int .u64 (kcode l'), .int .u64 (kcode h')], .bool true]) (by simp [results, Tryz.results92, go_sem, *]) rfl ⟨rfl, by exact below_auto⟩

theorem refJoin_ssC10 (l h : Key) (H1 : Hid (l.v ≤ h.v)) (l' h' : Key) (H2 : Hid (l'.v ≤ h'.v)) (N1 : decide (rnext h < kcode l') = false) (N2 : decide (rnext h' < kcode l) = false) (T1 : decide (kcode l' < kcode l) = true) (T2 : decide (kcode h < kcode h') = false) (w : World) :
  Calls Tryz.prog 92 #[.agg #[.int .u64 (kcode l), .int .u64 (kcode h)], .agg #[.int .u64 (kcode l'), .int .u64 (kcode h')]] w (Ret (.tuple #[.agg #[.int .u64 (kcode l'), .int .u64 (kcode h)], .bool true]) w) := by
 go_enter Tryz.func92, Tryz.ntmps92
 go_wp2_with (first | (go_at_call 35; (with_reducible refine (refEmpty_some l h H1 _).mono ?_); rintro e w2 ⟨rfl, hb2⟩; refine mB hb2 ?_; intro hc2 hf2 hz2; intros) | (go_at_call 35; (with_reducible refine (refEmpty_some l' h' H2 _).mono ?_); rintro e w3 ⟨rfl, hb3⟩; refine mB hb3 ?_; intro hc3 hf3 hz3; intros))
 (refine wp_region_ext (by kernel_rfl) (by kernel_rfl) ?_; (repeat (go_big_quiet_step (first | (go_at_call 140; with_reducible exact Calls.ext_of (refNext_key _ _))))); refine mX ?_; intro w4 hb4 hc4 hf4 hz4; intros)
 (have cc4_0_0 := hc4 (w.heap.size) 0 lt_auto; have cf4_0_0 := hf4 (w.heap.size) 0 lt_auto; have cc4_0_1 := hc4 (w.heap.size) 1 lt_auto; have cf4_0_1 := hf4 (w.heap.size) 1 lt_auto; have cc4_1_0 := hc4 (w.heap.size + 1) 0 lt_auto; have cf4_1_0 := hf4 (w.heap.size + 1) 0 lt_auto; have cc4_1_1 := hc4 (w.heap.size + 1) 1 lt_auto; have cf4_1_1 := hf4 (w.heap.size + 1) 1 lt_auto; have cc4_2_0 := hc4 (w.heap.size + 1 + 1) 0 lt_auto; have cf4_2_0 := hf4 (w.heap.size + 1 + 1) 0 lt_auto; have cc4_2_1 := hc4 (w.heap.size + 1 + 1) 1 lt_auto; have cf4_2_1 := hf4 (w.heap.size + 1 + 1) 1 lt_auto; clear hc4 hf4; simp [go_sem, *] at cc4_0_0 cf4_0_0 cc4_0_1 cf4_0_1 cc4_1_0 cf4_1_0 cc4_1_1 cf4_1_1 cc4_2_0 cf4_2_0 cc4_2_1 cf4_2_1)
 go_wp2_with (first | (go_at_call 85; (with_reducible refine (refNone_any _).mono ?_); rintro e w5 ⟨rfl, hb5⟩; refine mB hb5 ?_; intro hc5 hf5 hz5; intros))
 exact bodyPost_ret (v := .tuple #[.agg #[.int .u64 (kcode l'), .int .u64 (kcode h)], .bool true]) (by simp [results, Tryz.results92, go_sem, *]) rfl ⟨rfl, by exact below_auto⟩

theorem refJoin_ssC01 (l h : Key) (H1 : Hid (l.v ≤ h.v)) (l' h' : Key) (H2 : Hid (l'.v ≤ h'.v)) (N1 : decide (rnext h < kcode l') = false) (N2 : decide (rnext h' < kcode l) = false) (T1 : decide (kcode l' < kcode l) = false) (T2 : decide (kcode h < kcode h') = true) (w : World) :
  Calls Tryz.prog 92 #[.agg #[.int .u64 (kcode l), .int .u64 (kcode h)], .agg #[.int .u64 (kcode l'), .int .u64 (kcode h')]] w (Ret (.tuple #[.agg #[.int .u64 (kcode l), .int .u64 (kcode h')], .bool true]) w) := by
 go_enter Tryz.func92, Tryz.ntmps92
 go_wp2_with (first | (go_at_call 35; (with_reducible refine (refEmpty_some l h H1 _).mono ?_); rintro e w2 ⟨rfl, hb2⟩; refine mB hb2 ?_; intro hc2 hf2 hz2; intros) | (go_at_call 35; (with_reducible refine (refEmpty_some l' h' H2 _).mono ?_); rintro e w3 ⟨rfl, hb3⟩; refine mB hb3 ?_; intro hc3 hf3 hz3; intros))
 (refine wp_region_ext (by kernel_rfl) (by kernel_rfl) ?_; (repeat (go_big_quiet_step (first | (go_at_call 140; with_reducible exact Calls.ext_of (refNext_key _ _))))); refine mX ?_; intro w4 hb4 hc4 hf4 hz4; intros)
 (have cc4_0_0 := hc4 (w.heap.size) 0 lt_auto; have cf4_0_0 := hf4 (w.heap.size) 0 lt_auto; have cc4_0_1 := hc4 (w.heap.size) 1 lt_auto; have cf4_0_1 := hf4 (w.heap.size) 1 lt_auto; have cc4_1_0 := hc4 (w.heap.size + 1) 0 lt_auto; have cf4_1_0 := hf4 (w.heap.size + 1) 0 lt_auto; have cc4_1_1 := hc4 (w.heap.size + 1) 1 lt_auto; have cf4_1_1 := hf4 (w.heap.size + 1) 1 lt_auto; have cc4_2_0 := hc4 (w.heap.size + 1 + 1) 0 lt_auto; have cf4_2_0 := hf4 (w.heap.size + 1 + 1) 0 lt_auto; have cc4_2_1 := hc4 (w.heap.size + 1 + 1) 1 lt_auto; have cf4_2_1 := hf4 (w.heap.size + 1 + 1) 1 lt_auto; clear hc4 hf4; simp [go_sem, *] at cc4_0_0 cf4_0_0 cc4_0_1 cf4_0_1 cc4_1_0 cf4_1_0 cc4_1_1 cf4_1_1 cc4_2_0 cf4_2_0 cc4_2_1 cf4_2_1)
 go_wp2_with (first | (go_at_call 85; (with_reducible refine (refNone_any _).mono ?_); rintro e w5 ⟨rfl, hb5⟩; refine mB hb5 ?_; intro hc5 hf5 hz5; intros))
 exact bodyPost_ret (v := .tuple #[.agg #[.int .u64 (kcode l), .int .u64 (kcode h')], .bool true]) (by simp [results, Tryz.results92, go_sem, *]) rfl ⟨rfl, by exact below_auto⟩

theorem refJoin_ssC00 (l h : Key) (H1 : Hid (l.v ≤ h.v)) (l' h' : Key) (H2 : Hid (l'.v ≤ h'.v)) (N1 : decide (rnext h < kcode l') = false) (N2 : decide (rnext h' < kcode l) = false) (T1 : decide (kcode l' < kcode l) = false) (T2 : decide (kcode h < kcode h') = false) (w : World) :
  Calls Tryz.prog 92 #[.agg #[.int .u64 (kcode l), .int .u64 (kcode h)], .agg #[.int .u64 (kcode l'), .int .u64 (kcode h')]] w (Ret (.tuple #[.agg #[.int .u64 (kcode l), .int .u64 (kcode h)], .bool true]) w) := by
 go_enter Tryz.func92, Tryz.ntmps92
 go_wp2_with (first | (go_at_call 35; (with_reducible refine (refEmpty_some l h H1 _).mono ?_); rintro e w2 ⟨rfl, hb2⟩; refine mB hb2 ?_; intro hc2 hf2 hz2; intros) | (go_at_call 35; (with_reducible refine (refEmpty_some l' h' H2 _).mono ?_); rintro e w3 ⟨rfl, hb3⟩; refine mB hb3 ?_; intro hc3 hf3 hz3; intros))
 (refine wp_region_ext (by kernel_rfl) (by kernel_rfl) ?_; (repeat (go_big_quiet_step (first | (go_at_call 140; with_reducible exact Calls.ext_of (refNext_key _ _))))); refine mX ?_; intro w4 hb4 hc4 hf4 hz4; intros)
 (have cc4_0_0 := hc4 (w.heap.size) 0 lt_auto; have cf4_0_0 := hf4 (w.heap.size) 0 lt_auto; have cc4_0_1 := hc4 (w.heap.size) 1 lt_auto; have cf4_0_1 := hf4 (w.heap.size) 1 lt_auto; have cc4_1_0 := hc4 (w.heap.size + 1) 0 lt_auto; have cf4_1_0 := hf4 (w.heap.size + 1) 0 lt_auto; have cc4_1_1 := hc4 (w.heap.size + 1) 1 lt_auto; have cf4_1_1 := hf4 (w.heap.size + 1) 1 lt_auto; have cc4_2_0 := hc4 (w.heap.size + 1 + 1) 0 lt_auto; have cf4_2_0 := hf4 (w.heap.size + 1 + 1) 0 lt_auto; have cc4_2_1 := hc4 (w.heap.size + 1 + 1) 1 lt_auto; have cf4_2_1 := hf4 (w.heap.size + 1 + 1) 1 lt_auto; clear hc4 hf4; simp [go_sem, *] at cc4_0_0 cf4_0_0 cc4_0_1 cf4_0_1 cc4_1_0 cf4_1_0 cc4_1_1 cf4_1_1 cc4_2_0 cf4_2_0 cc4_2_1 cf4_2_1)
 go_wp2_with (first | (go_at_call 85; (with_reducible refine (refNone_any _).mono ?_); rintro e w5 ⟨rfl, hb5⟩; refine mB hb5 ?_; intro hc5 hf5 hz5; intros))
 exact bodyPost_ret (v := .tuple #[.agg #[.int .u64 (kcode l), .int .u64 (kcode h)], .bool true]) (by simp [results, Tryz.results92, go_sem, *]) rfl ⟨rfl, by exact below_auto⟩

end Go.Proofs.YtfbachckdadhoaaGreat
namespace Go.Proofs.YtfbachckdadhoaaGreat
set_option linter.unusedVariables false
open Go.RowKit Fl

theorem kMost_v (k l : Key) : (kMost k l).v = if k.v < l.v then l.v else k.v := by unfold kMost; split <;> rfl
theorem kLeast_v (k l : Key) : (kLeast k l).v = if l.v < k.v then l.v else k.v := by unfold kLeast; split <;> rfl

theorem meetR_ss (l h l' h' : Key) : meetR (some (l, h)) (some (l', h')) = if (kLeast h h').v < (kMost l l').v then none else some (kMost l l', kLeast h h') := by
 show canonS (kMost l l').bits (kLeast h h').bits false false = _
 split
 ·refine canonS_none ?_
  rw [Key.kof_bits, Key.kof_bits]; simp; omega
 ·exact canonS_canon _ _ (by omega)

theorem rnext_lt (h l : Key) : decide (rnext h < kcode l) = flt (knext h).bits l.bits := by
 rw [flt_kk]
 have a1 := h.lo; have a2 := h.hi; have b1 := l.lo; have b2 := l.hi
 apply decide_eq_decide.2
 by_cases ht : h.v = (inf : Int)
 ·have e : knext h = h := by simp [knext, ht]
  rw [e]
  have : kcode h + 1 ≤ rnext h := by unfold rnext; split <;> omega
  have := kcode_lt h l
  omega
 ·have e := knext_v ht
  rw [e]
  have e2 : rnext h = kcode (knext h) := by
   unfold rnext
   by_cases hz : h.v = -1
   ·rw [if_neg (by unfold isCode kcode; rw [if_neg (by omega)]; simp; omega)]
    unfold kcode; rw [if_neg (by omega), if_pos (by omega), e]; omega
   ·have : kcode h + 1 = kcode (knext h) := by unfold kcode; rw [e]; split <;> split <;> omega
    rw [this, if_pos (isCode_key _)]
  rw [e2, kcode_lt, e]
end Go.Proofs.YtfbachckdadhoaaGreat
namespace Go.Proofs.YtfbachckdadhoaaGreat
set_option linter.unusedVariables false
open Go.RowKit Fl

theorem join_isN (lo hi lo' hi' : Nat) (a b a' b' ok : Bool) (w : World) (hl : lo < 2 ^ 64) (hh : hi < 2 ^ 64) (hl' : lo' < 2 ^ 64) (hh' : hi' < 2 ^ 64) (hj : Hid (joinR (canonS lo hi a b) (canonS lo' hi' a' b') = (none, ok))) :
  Calls Tryz.prog 149 #[.agg #[.float .f64 lo, .float .f64 hi, .bool a, .bool b], .agg #[.float .f64 lo', .float .f64 hi', .bool a', .bool b']] w
   (Ret (.tuple #[.agg #[.float .f64 0, .float .f64 0, .bool true, .bool true], .bool ok]) w) := by
 have h := join_any lo hi lo' hi' a b a' b' w hl hh hl' hh'
 rw [hj.out] at h
 exact h
theorem join_isS (lo hi lo' hi' : Nat) (a b a' b' : Bool) (l2 h2 : Key) (ok : Bool) (w : World) (hl : lo < 2 ^ 64) (hh : hi < 2 ^ 64) (hl' : lo' < 2 ^ 64) (hh' : hi' < 2 ^ 64) (hj : Hid (joinR (canonS lo hi a b) (canonS lo' hi' a' b') = (some (l2, h2), ok))) :
  Calls Tryz.prog 149 #[.agg #[.float .f64 lo, .float .f64 hi, .bool a, .bool b], .agg #[.float .f64 lo', .float .f64 hi', .bool a', .bool b']] w
   (Ret (.tuple #[.agg #[.float .f64 l2.bits, .float .f64 h2.bits, .bool false, .bool false], .bool ok]) w) := by
 have h := join_any lo hi lo' hi' a b a' b' w hl hh hl' hh'
 rw [hj.out] at h
 exact h
end Go.Proofs.YtfbachckdadhoaaGreat
namespace Go.Proofs.YtfbachckdadhoaaGreat
set_option linter.unusedVariables false
open Go.RowKit Fl

attribute [go_sem] isNaN_slo isNaN_shi
theorem okR_meet (r r' : Rg) : okR (meetR r r') := by
 rcases e : meetR r r' with _ | ⟨l, h⟩
 ·trivial
 ·exact meetR_le e
theorem okR_join {r r' : Rg} (h : okR r) (h' : okR r') : okR (joinR r r').1 := by
 rcases r with _ | ⟨l, h1⟩
 ·exact h'
 ·rcases r' with _ | ⟨l', h1'⟩
  ·exact h
  ·simp only [joinR]
   split
   ·trivial
   ·split
    ·trivial
    ·simp only [okR, kLeast_v, kMost_v] at *; split <;> split <;> omega

theorem joinG (lo hi lo' hi' : Nat) (a b a' b' : Bool) (m : Rg) (ok : Bool) (w : World) (hl : lo < 2 ^ 64) (hh : hi < 2 ^ 64) (hl' : lo' < 2 ^ 64) (hh' : hi' < 2 ^ 64) (hm : Hid (joinR (canonS lo hi a b) (canonS lo' hi' a' b') = (m, ok))) :
  Calls Tryz.prog 149 #[.agg #[.float .f64 lo, .float .f64 hi, .bool a, .bool b], .agg #[.float .f64 lo', .float .f64 hi', .bool a', .bool b']] w
   (Ret (.tuple #[.agg #[.float .f64 (slo m), .float .f64 (shi m), .bool (sop m), .bool (sop m)], .bool ok]) w) := by
 have h := join_any lo hi lo' hi' a b a' b' w hl hh hl' hh'
 rw [hm.out, spv_gen] at h
 exact h
theorem refJoinG (r r' m : Rg) (ok : Bool) (w : World) (h1 : Hid (okR r)) (h2 : Hid (okR r')) (hm : Hid (joinR r r' = (m, ok))) :
  Calls Tryz.prog 92 #[.agg #[.int .u64 (rlo r), .int .u64 (rhi r)], .agg #[.int .u64 (rlo r'), .int .u64 (rhi r')]] w (Ret (.tuple #[.agg #[.int .u64 (rlo m), .int .u64 (rhi m)], .bool ok]) w) := by
 have hm' := hm.out
 have e1 : (joinR r r').1 = m := by rw [hm']
 have e2 : (joinR r r').2 = ok := by rw [hm']
 subst e1; subst e2
 rcases r with _ | ⟨l, h⟩ <;> rcases r' with _ | ⟨l', h'⟩
 ·exact refJoin_nn w
 ·exact refJoin_ns l' h' h2 w
 ·exact refJoin_sn l h h1 w
 ·simp only [joinR]
  cases N1 : decide (rnext h < kcode l')
  ·have F1 : flt (knext h).bits l'.bits = false := by rw [← rnext_lt]; exact N1
   rw [F1]
   cases N2 : decide (rnext h' < kcode l)
   ·have F2 : flt (knext h').bits l.bits = false := by rw [← rnext_lt]; exact N2
    rw [F2]
    have a1 := kcode_lt l' l; have a2 := kcode_lt h h'
    cases T1 : decide (kcode l' < kcode l) <;> cases T2 : decide (kcode h < kcode h')
    ·have g1 : kLeast l l' = l := by unfold kLeast; rw [if_neg (by simp at T1; omega)]
     have g2 : kMost h h' = h := by unfold kMost; rw [if_neg (by simp at T2; omega)]
     simp only [g1, g2, Bool.false_eq_true, if_false]
     exact refJoin_ssC00 l h h1 l' h' h2 N1 N2 T1 T2 w
    ·have g1 : kLeast l l' = l := by unfold kLeast; rw [if_neg (by simp at T1; omega)]
     have g2 : kMost h h' = h' := by unfold kMost; rw [if_pos (by simp at T2; omega)]
     simp only [g1, g2, Bool.false_eq_true, if_false]
     exact refJoin_ssC01 l h h1 l' h' h2 N1 N2 T1 T2 w
    ·have g1 : kLeast l l' = l' := by unfold kLeast; rw [if_pos (by simp at T1; omega)]
     have g2 : kMost h h' = h := by unfold kMost; rw [if_neg (by simp at T2; omega)]
     simp only [g1, g2, Bool.false_eq_true, if_false]
     exact refJoin_ssC10 l h h1 l' h' h2 N1 N2 T1 T2 w
    ·have g1 : kLeast l l' = l' := by unfold kLeast; rw [if_pos (by simp at T1; omega)]
     have g2 : kMost h h' = h' := by unfold kMost; rw [if_pos (by simp at T2; omega)]
     simp only [g1, g2, Bool.false_eq_true, if_false]
     exact refJoin_ssC11 l h h1 l' h' h2 N1 N2 T1 T2 w
   ·have F2 : flt (knext h').bits l.bits = true := by rw [← rnext_lt]; exact N2
    rw [F2]
    exact refJoin_ssB l h h1 l' h' h2 N1 N2 w
  ·have F1 : flt (knext h).bits l'.bits = true := by rw [← rnext_lt]; exact N1
   rw [F1]
   exact refJoin_ssA l h h1 l' h' h2 N1 w
end Go.Proofs.YtfbachckdadhoaaGreat
