/- The walks of SpanOnes and SpanEnds. -/
import Derived.Test.YtibimhjbhincnaaLHas
import Derived.Test.YtibimhjbhincnaaE
namespace Go.Proofs.Ytibimhjbhincnaa
set_option linter.unusedVariables false
open Go.RowKit Fl

theorem canonS_canon (l h : Key) (hlh : l.v ≤ h.v) : canonS l.bits h.bits false false = some (l, h) := by
  refine canonS_some (by simp [Key.bits_nan]) ?_ ?_ hlh
  · rw [Key.kof_bits]; simp
  · rw [Key.kof_bits]; simp
theorem canonS_empty : canonS 0 0 true true = none := canonS_none (by rw [kof_zero]; simp)
theorem canonS_one {a : Nat} (h : isNaN a = false) : canonS a a false false = some (kof a, kof a) := canonS_some (by simp [h]) (by simp) (by simp) (by omega)

theorem one_isN (key : Nat) (w : World) (hl : key < 2 ^ 64) (hr : Hid (canonS key key false false = none)) :
    Calls Try.prog 30 #[.float .f64 key] w (Ret (.agg #[.float .f64 0, .float .f64 0, .bool true, .bool true]) w) := by
  have h := one_any key w hl
  rw [hr.out] at h
  exact h
theorem one_isS (key : Nat) (l h : Key) (w : World) (hl : key < 2 ^ 64) (hr : Hid (canonS key key false false = some (l, h))) :
    Calls Try.prog 30 #[.float .f64 key] w (Ret (.agg #[.float .f64 l.bits, .float .f64 h.bits, .bool false, .bool false]) w) := by
  have h := one_any key w hl
  rw [hr.out] at h
  exact h
theorem one_lit (a : Nat) (ha : a ≤ inf) (w : World) :
    Calls Try.prog 30 #[.float .f64 a] w (Ret (.agg #[.float .f64 a, .float .f64 a, .bool false, .bool false]) w) := by
  have h1 := one_any a w (by unfold inf at ha; omega)
  rw [canonS_lit a a ha ha (Nat.le_refl _), at_spv] at h1
  exact h1

theorem ones_num (a b : Nat) (v : Bool) (k : Key) (w : World) (ha : a < 2 ^ 64) (hb : b < 2 ^ 64) (hn : isNaN a = false) (Hr : Hid (canonS a a false false = some (k, k)))
    (H1 : Hid (hasB (canonS k.bits k.bits false false) a = true)) (H2 : Hid (hasB (canonS k.bits k.bits false false) b = v)) (hv : feq a b = v) :
    Calls Try.prog 6 #[.float .f64 a, .float .f64 b] w (Ret (.bool true) w) := by
  have hk := Key.bits_lt k
  have h1 := feq_lit 4613937818241073152 (by unfold inf; omega)
  cases v
  all_goals
    go_enter Try.func6, Try.ntmps6
    go_wp2_with (first | (go_at_call 25; (with_reducible refine (at_any _ _ _).mono ?_); rintro e w1 ⟨rfl, hb1⟩; obtain ⟨hc1, hf1⟩ := bcell hb1; (try simp only [World.heap_drewN, World.cell?_drewN, World.frozen?_drewN] at hc1 hf1); have hz1 := hb1.size; (try simp at hz1); (try have hy1_0 : w.heap.size < w1.heap.size := by omega); (try have hy1_1 : w.heap.size + 1 < w1.heap.size := by omega); (try have hy1_2 : w.heap.size + 2 < w1.heap.size := by omega); (try have hy1_3 : w.heap.size + 3 < w1.heap.size := by omega); (try have hx1_0 : w.heap.size ≤ w1.heap.size := by omega); (try have hx1_1 : w.heap.size + 1 ≤ w1.heap.size := by omega); (try have hx1_2 : w.heap.size + 2 ≤ w1.heap.size := by omega)) | (go_at_call 30; (with_reducible refine (one_lit 4613937818241073152 (by unfold inf; omega) _).mono ?_); rintro e w2 ⟨rfl, hb2⟩; obtain ⟨hc2, hf2⟩ := bcell hb2; (try simp only [World.heap_drewN, World.cell?_drewN, World.frozen?_drewN] at hc2 hf2); have hz2 := hb2.size; (try simp at hz2); (try have hy2_0 : w.heap.size < w2.heap.size := by omega); (try have hy2_1 : w.heap.size + 1 < w2.heap.size := by omega); (try have hy2_2 : w.heap.size + 2 < w2.heap.size := by omega); (try have hy2_3 : w.heap.size + 3 < w2.heap.size := by omega); (try have hx2_0 : w.heap.size ≤ w2.heap.size := by omega); (try have hx2_1 : w.heap.size + 1 ≤ w2.heap.size := by omega); (try have hx2_2 : w.heap.size + 2 ≤ w2.heap.size := by omega)) | (go_at_call 30; (with_reducible refine (one_isS _ k k _ ha Hr).mono ?_); rintro e w3 ⟨rfl, hb3⟩; obtain ⟨hc3, hf3⟩ := bcell hb3; (try simp only [World.heap_drewN, World.cell?_drewN, World.frozen?_drewN] at hc3 hf3); have hz3 := hb3.size; (try simp at hz3); (try have hy3_0 : w.heap.size < w3.heap.size := by omega); (try have hy3_1 : w.heap.size + 1 < w3.heap.size := by omega); (try have hy3_2 : w.heap.size + 2 < w3.heap.size := by omega); (try have hy3_3 : w.heap.size + 3 < w3.heap.size := by omega); (try have hx3_0 : w.heap.size ≤ w3.heap.size := by omega); (try have hx3_1 : w.heap.size + 1 ≤ w3.heap.size := by omega); (try have hx3_2 : w.heap.size + 2 ≤ w3.heap.size := by omega)) | (go_at_call 31; (with_reducible refine (isNaN_any _ _).mono ?_); rintro e w' ⟨rfl, rfl⟩) | (go_at_call 24; (with_reducible refine (has_is _ _ _ _ _ _ _ hk hk H1).mono ?_); rintro e w4 ⟨rfl, hb4⟩; obtain ⟨hc4, hf4⟩ := bcell hb4; (try simp only [World.heap_drewN, World.cell?_drewN, World.frozen?_drewN] at hc4 hf4); have hz4 := hb4.size; (try simp at hz4); (try have hy4_0 : w.heap.size < w4.heap.size := by omega); (try have hy4_1 : w.heap.size + 1 < w4.heap.size := by omega); (try have hy4_2 : w.heap.size + 2 < w4.heap.size := by omega); (try have hy4_3 : w.heap.size + 3 < w4.heap.size := by omega); (try have hx4_0 : w.heap.size ≤ w4.heap.size := by omega); (try have hx4_1 : w.heap.size + 1 ≤ w4.heap.size := by omega); (try have hx4_2 : w.heap.size + 2 ≤ w4.heap.size := by omega); (try have hu4_w3_0 : w3.heap.size < w4.heap.size := by omega); (try have hu4_w3_1 : w3.heap.size + 1 < w4.heap.size := by omega)) | (go_at_call 24; (with_reducible refine (has_is _ _ _ _ _ _ _ hk hk H2).mono ?_); rintro e w5 ⟨rfl, hb5⟩; obtain ⟨hc5, hf5⟩ := bcell hb5; (try simp only [World.heap_drewN, World.cell?_drewN, World.frozen?_drewN] at hc5 hf5); have hz5 := hb5.size; (try simp at hz5); (try have hy5_0 : w.heap.size < w5.heap.size := by omega); (try have hy5_1 : w.heap.size + 1 < w5.heap.size := by omega); (try have hy5_2 : w.heap.size + 2 < w5.heap.size := by omega); (try have hy5_3 : w.heap.size + 3 < w5.heap.size := by omega); (try have hx5_0 : w.heap.size ≤ w5.heap.size := by omega); (try have hx5_1 : w.heap.size + 1 ≤ w5.heap.size := by omega); (try have hx5_2 : w.heap.size + 2 ≤ w5.heap.size := by omega); (try have hu5_w3_0 : w3.heap.size < w5.heap.size := by omega); (try have hu5_w3_1 : w3.heap.size + 1 < w5.heap.size := by omega)))
    go_ret
    exact ⟨ret_bool rfl, by (repeat (first | with_reducible exact Below.refl _ _ | ((with_reducible refine Below.alloc1 ?_ ?_ _); (· first | omega | (simp; done) | (simp; omega))) | (with_reducible refine Below.drew ?_) | (with_reducible refine below_drewN' ?_ _) | ((with_reducible refine Below.setCell1 ?_ ?_ _); (· first | omega | (simp; done) | (simp; omega))) | ((with_reducible refine Below.after (by assumption) ?_ ?_); (· first | omega | (simp; done) | (simp; omega)))))⟩

theorem ones_nan (a b : Nat) (w : World) (ha : a < 2 ^ 64) (hb : b < 2 ^ 64) (hn : isNaN a = true) (Hr : Hid (canonS a a false false = none)) (H0 : Hid ((canonS 0 0 true true).isNone = true))
    (H1 : Hid (hasB (canonS 0 0 true true) b = false)) :
    Calls Try.prog 6 #[.float .f64 a, .float .f64 b] w (Ret (.bool true) w) := by
  have h1 := feq_lit 4613937818241073152 (by unfold inf; omega)
  go_enter Try.func6, Try.ntmps6
  go_wp2_with (first | (go_at_call 25; (with_reducible refine (at_any _ _ _).mono ?_); rintro e w1 ⟨rfl, hb1⟩; obtain ⟨hc1, hf1⟩ := bcell hb1; (try simp only [World.heap_drewN, World.cell?_drewN, World.frozen?_drewN] at hc1 hf1); have hz1 := hb1.size; (try simp at hz1); (try have hy1_0 : w.heap.size < w1.heap.size := by omega); (try have hy1_1 : w.heap.size + 1 < w1.heap.size := by omega); (try have hy1_2 : w.heap.size + 2 < w1.heap.size := by omega); (try have hy1_3 : w.heap.size + 3 < w1.heap.size := by omega); (try have hx1_0 : w.heap.size ≤ w1.heap.size := by omega); (try have hx1_1 : w.heap.size + 1 ≤ w1.heap.size := by omega); (try have hx1_2 : w.heap.size + 2 ≤ w1.heap.size := by omega)) | (go_at_call 30; (with_reducible refine (one_lit 4613937818241073152 (by unfold inf; omega) _).mono ?_); rintro e w2 ⟨rfl, hb2⟩; obtain ⟨hc2, hf2⟩ := bcell hb2; (try simp only [World.heap_drewN, World.cell?_drewN, World.frozen?_drewN] at hc2 hf2); have hz2 := hb2.size; (try simp at hz2); (try have hy2_0 : w.heap.size < w2.heap.size := by omega); (try have hy2_1 : w.heap.size + 1 < w2.heap.size := by omega); (try have hy2_2 : w.heap.size + 2 < w2.heap.size := by omega); (try have hy2_3 : w.heap.size + 3 < w2.heap.size := by omega); (try have hx2_0 : w.heap.size ≤ w2.heap.size := by omega); (try have hx2_1 : w.heap.size + 1 ≤ w2.heap.size := by omega); (try have hx2_2 : w.heap.size + 2 ≤ w2.heap.size := by omega)) | (go_at_call 30; (with_reducible refine (one_isN _ _ ha Hr).mono ?_); rintro e w3 ⟨rfl, hb3⟩; obtain ⟨hc3, hf3⟩ := bcell hb3; (try simp only [World.heap_drewN, World.cell?_drewN, World.frozen?_drewN] at hc3 hf3); have hz3 := hb3.size; (try simp at hz3); (try have hy3_0 : w.heap.size < w3.heap.size := by omega); (try have hy3_1 : w.heap.size + 1 < w3.heap.size := by omega); (try have hy3_2 : w.heap.size + 2 < w3.heap.size := by omega); (try have hy3_3 : w.heap.size + 3 < w3.heap.size := by omega); (try have hx3_0 : w.heap.size ≤ w3.heap.size := by omega); (try have hx3_1 : w.heap.size + 1 ≤ w3.heap.size := by omega); (try have hx3_2 : w.heap.size + 2 ≤ w3.heap.size := by omega)) | (go_at_call 31; (with_reducible refine (isNaN_any _ _).mono ?_); rintro e w' ⟨rfl, rfl⟩) | (go_at_call 20; (with_reducible refine (empty_is _ _ _ _ true _ (by omega) (by omega) H0).mono ?_); rintro e w4 ⟨rfl, hb4⟩; obtain ⟨hc4, hf4⟩ := bcell hb4; (try simp only [World.heap_drewN, World.cell?_drewN, World.frozen?_drewN] at hc4 hf4); have hz4 := hb4.size; (try simp at hz4); (try have hy4_0 : w.heap.size < w4.heap.size := by omega); (try have hy4_1 : w.heap.size + 1 < w4.heap.size := by omega); (try have hy4_2 : w.heap.size + 2 < w4.heap.size := by omega); (try have hy4_3 : w.heap.size + 3 < w4.heap.size := by omega); (try have hx4_0 : w.heap.size ≤ w4.heap.size := by omega); (try have hx4_1 : w.heap.size + 1 ≤ w4.heap.size := by omega); (try have hx4_2 : w.heap.size + 2 ≤ w4.heap.size := by omega); (try have hu4_w3_0 : w3.heap.size < w4.heap.size := by omega); (try have hu4_w3_1 : w3.heap.size + 1 < w4.heap.size := by omega)) | (go_at_call 24; (with_reducible refine (has_is _ _ _ _ _ _ _ (by omega) (by omega) H1).mono ?_); rintro e w5 ⟨rfl, hb5⟩; obtain ⟨hc5, hf5⟩ := bcell hb5; (try simp only [World.heap_drewN, World.cell?_drewN, World.frozen?_drewN] at hc5 hf5); have hz5 := hb5.size; (try simp at hz5); (try have hy5_0 : w.heap.size < w5.heap.size := by omega); (try have hy5_1 : w.heap.size + 1 < w5.heap.size := by omega); (try have hy5_2 : w.heap.size + 2 < w5.heap.size := by omega); (try have hy5_3 : w.heap.size + 3 < w5.heap.size := by omega); (try have hx5_0 : w.heap.size ≤ w5.heap.size := by omega); (try have hx5_1 : w.heap.size + 1 ≤ w5.heap.size := by omega); (try have hx5_2 : w.heap.size + 2 ≤ w5.heap.size := by omega); (try have hu5_w3_0 : w3.heap.size < w5.heap.size := by omega); (try have hu5_w3_1 : w3.heap.size + 1 < w5.heap.size := by omega)))
  go_ret
  exact ⟨ret_bool rfl, by (repeat (first | with_reducible exact Below.refl _ _ | ((with_reducible refine Below.alloc1 ?_ ?_ _); (· first | omega | (simp; done) | (simp; omega))) | (with_reducible refine Below.drew ?_) | (with_reducible refine below_drewN' ?_ _) | ((with_reducible refine Below.setCell1 ?_ ?_ _); (· first | omega | (simp; done) | (simp; omega))) | ((with_reducible refine Below.after (by assumption) ?_ ?_); (· first | omega | (simp; done) | (simp; omega)))))⟩

theorem hasB_point (k : Key) (b : Nat) : hasB (some (k, k)) b = (!isNaN b && decide (k.v = (kof b).v)) := by
  rw [hasB_some]
  cases isNaN b
  · rw [Bool.eq_iff_iff]; simp; omega
  · simp

theorem spanOnes_walk (a b : Nat) (w : World) (ha : a < 2 ^ 64) (hb : b < 2 ^ 64) :
    Calls Try.prog 6 #[.float .f64 a, .float .f64 b] w (Ret (.bool true) w) := by
  cases hn : isNaN a
  · refine ones_num a b _ (kof a) w ha hb hn (canonS_one hn) ?_ ?_ rfl
    · show _ = _
      rw [canonS_canon _ _ (by omega), hasB_point, hn]; simp
    · show _ = _
      rw [canonS_canon _ _ (by omega), hasB_point]; unfold feq; rw [hn]; simp
  · refine ones_nan a b w ha hb hn ?_ ?_ ?_
    · show _ = _
      simp [canonS, hn]
    · show _ = _
      rw [canonS_empty]; rfl
    · show _ = _
      rw [canonS_empty]; rfl
end Go.Proofs.Ytibimhjbhincnaa
