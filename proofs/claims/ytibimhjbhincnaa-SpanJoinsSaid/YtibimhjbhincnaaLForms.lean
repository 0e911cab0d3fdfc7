/- The walk of SpanForms. -/
import Derived.Test.YtibimhjbhincnaaL0
namespace Go.Proofs.Ytibimhjbhincnaa
set_option linter.unusedVariables false
open Go.RowKit Fl

theorem canonS_le {lo hi : Nat} {a b : Bool} {l h : Key} (e : canonS lo hi a b = some (l, h)) : l.v ≤ h.v := by
  by_cases hlh : (kof lo).v + (if a then 1 else 0) ≤ (kof hi).v - (if b then 1 else 0)
  · by_cases hn : (isNaN lo || isNaN hi) = true
    · unfold canonS at e; rw [if_pos hn] at e; cases e
    · unfold canonS at e
      rw [if_neg hn, dif_pos hlh] at e
      rw [Option.some.injEq, Prod.mk.injEq] at e
      rw [← e.1, ← e.2]; exact hlh
  · rw [canonS_none hlh] at e; cases e

theorem refOf_is (lo hi : Nat) (a b : Bool) (r : Rg) (w : World) (hl : lo < 2 ^ 64) (hh : hi < 2 ^ 64) (hr : Hid (canonS lo hi a b = r)) :
    Calls Try.prog 16 #[.agg #[.float .f64 lo, .float .f64 hi, .bool a, .bool b]] w (Ret (rgv r) w) := by
  have h := refOf_any lo hi a b w hl hh
  rw [hr.out] at h
  exact h
theorem empty_is (lo hi : Nat) (a b : Bool) (r : Bool) (w : World) (hl : lo < 2 ^ 64) (hh : hi < 2 ^ 64) (hr : Hid ((canonS lo hi a b).isNone = r)) :
    Calls Try.prog 20 #[.agg #[.float .f64 lo, .float .f64 hi, .bool a, .bool b]] w (Ret (.bool r) w) := by
  have h := empty_any lo hi a b w hl hh
  rw [hr.out] at h
  exact h
theorem sameSpan_refl (a0 a1 : Nat) (a2 a3 : Bool) (w : World) :
    Calls Try.prog 17 #[.agg #[.float .f64 a0, .float .f64 a1, .bool a2, .bool a3], .agg #[.float .f64 a0, .float .f64 a1, .bool a2, .bool a3]] w (Ret (.bool true) w) := by
  have h := sameSpan_any a0 a1 a0 a1 a2 a3 a2 a3 w
  rw [show sameSp a0 a1 a2 a3 a0 a1 a2 a3 = true by simp [sameSp]] at h
  exact h
theorem refSpan_none' (w : World) : Calls Try.prog 19 #[.agg #[.int .u64 1, .int .u64 0]] w (Ret (spv none) w) := refSpan_none w
theorem refSpan_some' (l h : Key) (hlh : Hid (l.v ≤ h.v)) (w : World) : Calls Try.prog 19 #[.agg #[.int .u64 (kcode l), .int .u64 (kcode h)]] w (Ret (spv (some (l, h))) w) := refSpan_some l h hlh.out w
theorem refEmpty_some (l h : Key) (hlh : Hid (l.v ≤ h.v)) (w : World) : Calls Try.prog 21 #[.agg #[.int .u64 (kcode l), .int .u64 (kcode h)]] w (Ret (.bool false) w) := by
  have h1 := refEmpty_any (kcode l) (kcode h) w
  rw [show decide (kcode h < kcode l) = false by rw [decide_eq_false_iff_not, kcode_lt]; have := hlh.out; omega] at h1
  exact h1
theorem refEmpty_none (w : World) : Calls Try.prog 21 #[.agg #[.int .u64 1, .int .u64 0]] w (Ret (.bool true) w) := refEmpty_any 1 0 w

set_option maxRecDepth 100000 in
theorem forms_none (lo hi : Nat) (a b : Bool) (w : World) (hl : lo < 2 ^ 64) (hh : hi < 2 ^ 64) (n1 n2 : Bool) (hn1 : isNaN lo = n1) (hn2 : isNaN hi = n2) (Hr : Hid (canonS lo hi a b = none)) (He : Hid ((canonS lo hi a b).isNone = true)) :
    Calls Try.prog 3 #[.agg #[.float .f64 lo, .float .f64 hi, .bool a, .bool b]] w (Ret (.bool true) w) := by
  cases n1 <;> cases n2
  all_goals
    go_enter Try.func3, Try.ntmps3
    go_wp2_with (first | (go_at_call 15; (with_reducible refine (alive_any _).mono ?_); rintro e w1 ⟨rfl, hb1⟩; obtain ⟨hc1, hf1⟩ := bcell hb1; (try simp only [World.heap_drewN, World.cell?_drewN, World.frozen?_drewN] at hc1 hf1); have hz1 := hb1.size; (try simp at hz1); (try have hy1_0 : w.heap.size < w1.heap.size := by omega); (try have hy1_1 : w.heap.size + 1 < w1.heap.size := by omega); (try have hy1_2 : w.heap.size + 2 < w1.heap.size := by omega); (try have hy1_3 : w.heap.size + 3 < w1.heap.size := by omega); (try have hx1_0 : w.heap.size ≤ w1.heap.size := by omega); (try have hx1_1 : w.heap.size + 1 ≤ w1.heap.size := by omega); (try have hx1_2 : w.heap.size + 2 ≤ w1.heap.size := by omega)) | (go_at_call 16; (with_reducible refine (refOf_is _ _ _ _ (none) _ hl hh Hr).mono ?_); rintro e w2 ⟨rfl, hb2⟩; obtain ⟨hc2, hf2⟩ := bcell hb2; (try simp only [World.heap_drewN, World.cell?_drewN, World.frozen?_drewN] at hc2 hf2); have hz2 := hb2.size; (try simp at hz2); (try have hy2_0 : w.heap.size < w2.heap.size := by omega); (try have hy2_1 : w.heap.size + 1 < w2.heap.size := by omega); (try have hy2_2 : w.heap.size + 2 < w2.heap.size := by omega); (try have hy2_3 : w.heap.size + 3 < w2.heap.size := by omega); (try have hx2_0 : w.heap.size ≤ w2.heap.size := by omega); (try have hx2_1 : w.heap.size + 1 ≤ w2.heap.size := by omega); (try have hx2_2 : w.heap.size + 2 ≤ w2.heap.size := by omega)))
    (refine wp_region_ext (by kernel_rfl) (by kernel_rfl) ?_; (repeat (go_big_quiet_step (first | (go_at_call 18; with_reducible exact Calls.ext_of (canon_is _ _ _ _ (none) _ hl hh Hr)) | (go_at_call 19; with_reducible exact Calls.ext_of (refSpan_none' _)) | (go_at_call 17; with_reducible exact Calls.ext_of (sameSpan_refl _ _ _ _ _)) | (go_at_call 20; with_reducible exact Calls.ext_of (empty_is _ _ _ _ true _ hl hh He)) | (go_at_call 21; with_reducible exact Calls.ext_of (refEmpty_none _)) | (go_at_call 22; with_reducible exact Calls.ext_of (right_any _ _ _ _ _)) | (go_at_call 23; with_reducible exact Calls.ext_same (refNan_any _ (by assumption) _))))); refine wpQuiet_nil ?_; rintro w3 ⟨x3, hx3⟩; have hb3 := x3.b; rw [← hx3] at hb3; clear hx3 x3; obtain ⟨hc3, hf3⟩ := bcell hb3; (try simp only [World.heap_drewN, World.cell?_drewN, World.frozen?_drewN] at hc3 hf3); have hz3 := hb3.size; (try simp at hz3); (try have hy3_0 : w.heap.size < w3.heap.size := by omega); (try have hy3_1 : w.heap.size + 1 < w3.heap.size := by omega); (try have hy3_2 : w.heap.size + 2 < w3.heap.size := by omega); (try have hy3_3 : w.heap.size + 3 < w3.heap.size := by omega); (try have hx3_0 : w.heap.size ≤ w3.heap.size := by omega); (try have hx3_1 : w.heap.size + 1 ≤ w3.heap.size := by omega); (try have hx3_2 : w.heap.size + 2 ≤ w3.heap.size := by omega))
    go_wp2
    go_ret
    exact ⟨ret_bool rfl, by (repeat (first | with_reducible exact Below.refl _ _ | ((with_reducible refine Below.alloc1 ?_ ?_ _); (· first | omega | (simp; done) | (simp; omega))) | (with_reducible refine Below.drew ?_) | (with_reducible refine below_drewN' ?_ _) | ((with_reducible refine Below.setCell1 ?_ ?_ _); (· first | omega | (simp; done) | (simp; omega))) | ((with_reducible refine Below.after (by assumption) ?_ ?_); (· first | omega | (simp; done) | (simp; omega)))))⟩

set_option maxRecDepth 100000 in
theorem forms_some (lo hi : Nat) (a b : Bool) (l h : Key) (w : World) (hl : lo < 2 ^ 64) (hh : hi < 2 ^ 64) (hn1 : isNaN lo = false) (hn2 : isNaN hi = false) (Hr : Hid (canonS lo hi a b = some (l, h))) (He : Hid ((canonS lo hi a b).isNone = false)) (Hle : Hid (l.v ≤ h.v)) :
    Calls Try.prog 3 #[.agg #[.float .f64 lo, .float .f64 hi, .bool a, .bool b]] w (Ret (.bool true) w) := by
  go_enter Try.func3, Try.ntmps3
  go_wp2_with (first | (go_at_call 15; (with_reducible refine (alive_any _).mono ?_); rintro e w1 ⟨rfl, hb1⟩; obtain ⟨hc1, hf1⟩ := bcell hb1; (try simp only [World.heap_drewN, World.cell?_drewN, World.frozen?_drewN] at hc1 hf1); have hz1 := hb1.size; (try simp at hz1); (try have hy1_0 : w.heap.size < w1.heap.size := by omega); (try have hy1_1 : w.heap.size + 1 < w1.heap.size := by omega); (try have hy1_2 : w.heap.size + 2 < w1.heap.size := by omega); (try have hy1_3 : w.heap.size + 3 < w1.heap.size := by omega); (try have hx1_0 : w.heap.size ≤ w1.heap.size := by omega); (try have hx1_1 : w.heap.size + 1 ≤ w1.heap.size := by omega); (try have hx1_2 : w.heap.size + 2 ≤ w1.heap.size := by omega)) | (go_at_call 16; (with_reducible refine (refOf_is _ _ _ _ (some (l, h)) _ hl hh Hr).mono ?_); rintro e w2 ⟨rfl, hb2⟩; obtain ⟨hc2, hf2⟩ := bcell hb2; (try simp only [World.heap_drewN, World.cell?_drewN, World.frozen?_drewN] at hc2 hf2); have hz2 := hb2.size; (try simp at hz2); (try have hy2_0 : w.heap.size < w2.heap.size := by omega); (try have hy2_1 : w.heap.size + 1 < w2.heap.size := by omega); (try have hy2_2 : w.heap.size + 2 < w2.heap.size := by omega); (try have hy2_3 : w.heap.size + 3 < w2.heap.size := by omega); (try have hx2_0 : w.heap.size ≤ w2.heap.size := by omega); (try have hx2_1 : w.heap.size + 1 ≤ w2.heap.size := by omega); (try have hx2_2 : w.heap.size + 2 ≤ w2.heap.size := by omega)))
  (refine wp_region_ext (by kernel_rfl) (by kernel_rfl) ?_; (repeat (go_big_quiet_step (first | (go_at_call 18; with_reducible exact Calls.ext_of (canon_is _ _ _ _ (some (l, h)) _ hl hh Hr)) | (go_at_call 19; with_reducible exact Calls.ext_of (refSpan_some' l h Hle _)) | (go_at_call 17; with_reducible exact Calls.ext_of (sameSpan_refl _ _ _ _ _)) | (go_at_call 20; with_reducible exact Calls.ext_of (empty_is _ _ _ _ false _ hl hh He)) | (go_at_call 21; with_reducible exact Calls.ext_of (refEmpty_some l h Hle _)) | (go_at_call 22; with_reducible exact Calls.ext_of (right_any _ _ _ _ _)) | (go_at_call 23; with_reducible exact Calls.ext_same (refNan_any _ (by assumption) _))))); refine wpQuiet_nil ?_; rintro w3 ⟨x3, hx3⟩; have hb3 := x3.b; rw [← hx3] at hb3; clear hx3 x3; obtain ⟨hc3, hf3⟩ := bcell hb3; (try simp only [World.heap_drewN, World.cell?_drewN, World.frozen?_drewN] at hc3 hf3); have hz3 := hb3.size; (try simp at hz3); (try have hy3_0 : w.heap.size < w3.heap.size := by omega); (try have hy3_1 : w.heap.size + 1 < w3.heap.size := by omega); (try have hy3_2 : w.heap.size + 2 < w3.heap.size := by omega); (try have hy3_3 : w.heap.size + 3 < w3.heap.size := by omega); (try have hx3_0 : w.heap.size ≤ w3.heap.size := by omega); (try have hx3_1 : w.heap.size + 1 ≤ w3.heap.size := by omega); (try have hx3_2 : w.heap.size + 2 ≤ w3.heap.size := by omega))
  go_wp2
  go_ret
  exact ⟨ret_bool rfl, by (repeat (first | with_reducible exact Below.refl _ _ | ((with_reducible refine Below.alloc1 ?_ ?_ _); (· first | omega | (simp; done) | (simp; omega))) | (with_reducible refine Below.drew ?_) | (with_reducible refine below_drewN' ?_ _) | ((with_reducible refine Below.setCell1 ?_ ?_ _); (· first | omega | (simp; done) | (simp; omega))) | ((with_reducible refine Below.after (by assumption) ?_ ?_); (· first | omega | (simp; done) | (simp; omega)))))⟩

theorem canonS_num {lo hi : Nat} {a b : Bool} {r : Key × Key} (e : canonS lo hi a b = some r) : isNaN lo = false ∧ isNaN hi = false := by
  cases h1 : isNaN lo
  · cases h2 : isNaN hi
    · exact ⟨rfl, rfl⟩
    · unfold canonS at e; rw [if_pos (by simp [h2])] at e; cases e
  · unfold canonS at e; rw [if_pos (by simp [h1])] at e; cases e

theorem forms_walk (lo hi : Nat) (a b : Bool) (w : World) (hl : lo < 2 ^ 64) (hh : hi < 2 ^ 64) :
    Calls Try.prog 3 #[.agg #[.float .f64 lo, .float .f64 hi, .bool a, .bool b]] w (Ret (.bool true) w) := by
  obtain ⟨r, hr⟩ : ∃ r, canonS lo hi a b = r := ⟨_, rfl⟩
  rcases r with _ | ⟨l, h⟩
  · exact forms_none lo hi a b w hl hh _ _ rfl rfl hr (by show _ = _; rw [hr]; rfl)
  · exact forms_some lo hi a b l h w hl hh (canonS_num hr).1 (canonS_num hr).2 hr (by show _ = _; rw [hr]; rfl) (canonS_le hr)
end Go.Proofs.Ytibimhjbhincnaa
