/- The walk of SubChecks. -/
import Derived.Test.YtgpkfgeflcdbcaaKG
import Derived.Test.YtgpkfgeflcdbcaaLSm
namespace Go.Proofs.Ytgpkfgeflcdbcaa.K
set_option linter.unusedVariables false
open Go.RowKit Fl

theorem cb_lit (n : Nat) (h : n ≤ inf) : (cb n).b = n := by
  show cbits n = n
  rw [cbits_num (klit_nan n h), klit_kof n h, klit_bits]
theorem lit_code (n : Nat) (h : n ≤ inf) : codeOf n = n + 9223372036854775808 := by
  have h1 : codeOf n = kcode (klit n h) := by simp [codeOf, klit_nan n h, klit_kof n h]
  rw [h1]
  unfold kcode klit
  rw [if_pos (by simp only; omega)]
theorem ordF_two (a b : Nat) (ha : a ≤ inf) (hb : b ≤ inf) (h : a < b) : ordF [a, b] = true := by
  unfold ordF
  rw [decide_eq_true_eq]
  have e : fsort [a, b] = [cb a, cb b] := by
    refine strict_ext (fsort_strict _) ?_ (fun x => ?_)
    · refine List.pairwise_cons.2 ⟨fun y hy => ?_, List.pairwise_singleton _ _⟩
      rw [List.mem_singleton.1 hy, cb_code, cb_code, lit_code a ha, lit_code b hb]; omega
    · rw [fsort_mem]
      simp only [List.mem_cons, List.not_mem_nil, or_false, exists_eq_or_imp, exists_eq_left]
      constructor
      · rintro (rfl | rfl) <;> simp
      · rintro (rfl | rfl) <;> simp
  rw [e]
  show [a, b] = [(cb a).b, (cb b).b]
  rw [cb_lit a ha, cb_lit b hb]
theorem ordF_one (a : Nat) (ha : a ≤ inf) : ordF [a] = true := by
  unfold ordF
  rw [decide_eq_true_eq]
  have e : fsort [a] = [cb a] := by
    refine strict_ext (fsort_strict _) (List.pairwise_singleton _ _) (fun x => ?_)
    rw [fsort_mem]
    simp only [List.mem_cons, List.not_mem_nil, or_false, exists_eq_left]
    exact ⟨fun h => h.symm, fun h => h.symm⟩
  rw [e]
  show [a] = [(cb a).b]
  rw [cb_lit a ha]
theorem raw_lit (a b : Nat) (ha : a ≤ inf) (hb : b ≤ inf) (h : (klit a ha).v ≤ (klit b hb).v) : N.RK.raw ⟨klit a ha, klit b hb, h⟩ = ⟨a, b, false, false⟩ := by
  show (⟨(klit a ha).bits, (klit b hb).bits, false, false⟩ : SpanV) = _
  rw [klit_bits, klit_bits]
theorem small_check (B : Nat) : SubV.check (smallV B) = 0 := by
  have e1 : SubV.nb (smallV B) = true := rfl
  have e2 : SubV.mb (smallV B) = false := rfl
  have e3 : (smallV B).rs.any isNaN = false := by
    simp only [smallV, List.any_cons, List.any_nil, Bool.or_false]
    rw [klit_nan _ (by unfold inf; omega), klit_nan _ (by unfold inf; omega)]; rfl
  have e4 : (smallV B).ws.any isNaN = false := by
    simp only [smallV, List.any_cons, List.any_nil, Bool.or_false]
    rw [klit_nan _ (by unfold inf; omega)]
  have e5 : hasE (smallV B).ss = false := by
    unfold hasE
    simp only [smallV, List.any_cons, List.any_nil, Bool.or_false, SpanV.rg]
    rw [canonS_lit _ _ (by unfold inf; omega) (by unfold inf; omega) (by omega)]; rfl
  have e6 : ordF (smallV B).rs = true := ordF_two _ _ (by unfold inf; omega) (by unfold inf; omega) (by omega)
  have e7 : ordF (smallV B).ws = true := ordF_one _ (by unfold inf; omega)
  have e8 : ordS (smallV B).ss = true := by
    unfold ordS
    rw [decide_eq_true_eq]
    have hs : (smallV B).ss = [⟨4607182418800017408, 4613937818241073152, false, false⟩] := rfl
    rw [hs]
    have hf : N.forms [(⟨4607182418800017408, 4613937818241073152, false, false⟩ : SpanV)] = [⟨klit 4607182418800017408 (by unfold inf; omega), klit 4613937818241073152 (by unfold inf; omega), by show (4607182418800017408 : Int) ≤ 4613937818241073152; omega⟩] := by
      unfold N.forms
      simp only [List.flatMap_cons, List.flatMap_nil, List.append_nil]
      exact N.fO_some (s := ⟨4607182418800017408, 4613937818241073152, false, false⟩) (canonS_lit 4607182418800017408 4613937818241073152 (by unfold inf; omega) (by unfold inf; omega) (by omega))
    rw [hf]
    exact congrArg (fun z => [z]) (raw_lit _ _ _ _ _).symm
  unfold SubV.check
  rw [e1, e2, e3, e4, e5, e6, e7, e8]
  rfl

/-- The empty submission. -/
def zeroV : SubV := ⟨0, 0, 0, none, 0, [], none, 0, [], none, 0, []⟩
theorem zero_at (w : World) : zeroV.At w := ⟨⟨.inl rfl, fun i hi => absurd hi (Nat.not_lt_zero _), Nat.zero_le _⟩, ⟨.inl rfl, fun i hi => absurd hi (Nat.not_lt_zero _), Nat.zero_le _⟩, ⟨.inl rfl, fun i hi => absurd hi (Nat.not_lt_zero _), Nat.zero_le _⟩⟩
theorem zero_check (w : World) : Calls Try.prog 4 #[.agg #[.int .i64 0, .int .i64 0, .int .i64 0, .slice none 0 0, .slice none 0 0, .slice none 0 0]] w (Ret (.int .i64 43) w) := check_any zeroV w (zero_at w)
theorem smallCheck_any (B : Nat) (w : World) (h : (smallV B).At w) :
    Calls Try.prog 4 #[.agg #[.int .i64 1, .int .i64 2, .int .i64 0, .slice (some ⟨B + 1, 0, none⟩) 2 2, .slice (some ⟨B + 1 + 1, 0, none⟩) 1 1, .slice (some ⟨B + 1 + 1 + 1, 0, none⟩) 1 1]] w (Ret (.int .i64 0) w) := by
  have h1 := check_any (smallV B) w h
  rw [small_check] at h1
  exact h1

set_option maxRecDepth 100000 in
theorem subChecks_walk (x : SubV) (w : World) (hx : x.At w) :
    Calls Try.prog 3 #[.agg #[.int .i64 x.s0, .int .i64 x.s1, .int .i64 x.s2, .slice x.ra x.rs.length x.rc, .slice x.sa x.ss.length x.sc, .slice x.wa x.ws.length x.wc]] w (Ret (.bool true) w) := by
  have H1 := fun W (hb : Below w.heap.size w W) => check_any x W (hx.below hb)
  have H2 := fun W (hb : Below w.heap.size w W) => refCheck_any x W (hx.below hb)
  generalize SubV.check x = V at *
  generalize x.rs.length = n1 at *
  generalize x.ss.length = n2 at *
  generalize x.ws.length = n3 at *
  clear hx
  go_enter Try.func3, Try.ntmps3
  go_wp2_with fail
  ((with_reducible refine (small_any _).mono ?_); rintro e w1 ⟨B1, rfl, hA1, hb1⟩; obtain ⟨hc1, hf1⟩ := bcell hb1; (try simp only [World.heap_drewN, World.cell?_drewN, World.frozen?_drewN] at hc1 hf1); have hz1 := hb1.size; (try simp at hz1); (try have hy1_0 : w.heap.size < w1.heap.size := by omega); (try have hy1_1 : w.heap.size + 1 < w1.heap.size := by omega); (try have hy1_2 : w.heap.size + 2 < w1.heap.size := by omega); (try have hy1_3 : w.heap.size + 3 < w1.heap.size := by omega); (try have hx1_0 : w.heap.size ≤ w1.heap.size := by omega); (try have hx1_1 : w.heap.size + 1 ≤ w1.heap.size := by omega); (try have hx1_2 : w.heap.size + 2 ≤ w1.heap.size := by omega))
  go_wp2_with fail
  ((with_reducible refine (smallCheck_any _ _ hA1).mono ?_); rintro e w2 ⟨rfl, hb2⟩; obtain ⟨hc2, hf2⟩ := bcell hb2; (try simp only [World.heap_drewN, World.cell?_drewN, World.frozen?_drewN] at hc2 hf2); have hz2 := hb2.size; (try simp at hz2); (try have hy2_0 : w.heap.size < w2.heap.size := by omega); (try have hy2_1 : w.heap.size + 1 < w2.heap.size := by omega); (try have hy2_2 : w.heap.size + 2 < w2.heap.size := by omega); (try have hy2_3 : w.heap.size + 3 < w2.heap.size := by omega); (try have hx2_0 : w.heap.size ≤ w2.heap.size := by omega); (try have hx2_1 : w.heap.size + 1 ≤ w2.heap.size := by omega); (try have hx2_2 : w.heap.size + 2 ≤ w2.heap.size := by omega))
  go_wp2_with fail
  ((with_reducible refine (zero_check _).mono ?_); rintro e w3 ⟨rfl, hb3⟩; obtain ⟨hc3, hf3⟩ := bcell hb3; (try simp only [World.heap_drewN, World.cell?_drewN, World.frozen?_drewN] at hc3 hf3); have hz3 := hb3.size; (try simp at hz3); (try have hy3_0 : w.heap.size < w3.heap.size := by omega); (try have hy3_1 : w.heap.size + 1 < w3.heap.size := by omega); (try have hy3_2 : w.heap.size + 2 < w3.heap.size := by omega); (try have hy3_3 : w.heap.size + 3 < w3.heap.size := by omega); (try have hx3_0 : w.heap.size ≤ w3.heap.size := by omega); (try have hx3_1 : w.heap.size + 1 ≤ w3.heap.size := by omega); (try have hx3_2 : w.heap.size + 2 ≤ w3.heap.size := by omega))
  go_wp2_with fail
  have hbw : Below w.heap.size w w3 := by (repeat (first | with_reducible exact Below.refl _ _ | ((with_reducible refine Below.alloc1 ?_ ?_ _); (· first | omega | (simp; done) | (simp; omega))) | (with_reducible refine Below.drew ?_) | (with_reducible refine below_drewN' ?_ _) | ((with_reducible refine Below.setCell1 ?_ ?_ _); (· first | omega | (simp; done) | (simp; omega))) | ((with_reducible refine Below.after (by assumption) ?_ ?_); (· first | omega | (simp; done) | (simp; omega)))))
  have hK : ∀ X : Ext w3, Below w.heap.size w X.w := fun X => hbw.trans (X.b.mono hbw.size)
  (refine wp_region_ext (by kernel_rfl) (by kernel_rfl) ?_; (repeat (go_big_quiet_step (first | (go_at_call 4; with_reducible exact Calls.ext_of (H1 _ (hK _))) | (go_at_call 6; with_reducible exact Calls.ext_of (H2 _ (hK _)))))); refine wpQuiet_nil ?_; rintro w8 ⟨x8, hx8⟩; have hb8 := x8.b; rw [← hx8] at hb8; clear hx8 x8; obtain ⟨hc8, hf8⟩ := bcell hb8; (try simp only [World.heap_drewN, World.cell?_drewN, World.frozen?_drewN] at hc8 hf8); have hz8 := hb8.size; (try simp at hz8); (try have hy8_0 : w.heap.size < w8.heap.size := by omega); (try have hy8_1 : w.heap.size + 1 < w8.heap.size := by omega); (try have hy8_2 : w.heap.size + 2 < w8.heap.size := by omega); (try have hy8_3 : w.heap.size + 3 < w8.heap.size := by omega); (try have hx8_0 : w.heap.size ≤ w8.heap.size := by omega); (try have hx8_1 : w.heap.size + 1 ≤ w8.heap.size := by omega); (try have hx8_2 : w.heap.size + 2 ≤ w8.heap.size := by omega))
  go_wp2_with fail
  go_ret
  exact ⟨rfl, by (repeat (first | with_reducible exact Below.refl _ _ | ((with_reducible refine Below.alloc1 ?_ ?_ _); (· first | omega | (simp; done) | (simp; omega))) | (with_reducible refine Below.drew ?_) | (with_reducible refine below_drewN' ?_ _) | ((with_reducible refine Below.setCell1 ?_ ?_ _); (· first | omega | (simp; done) | (simp; omega))) | ((with_reducible refine Below.after (by assumption) ?_ ?_); (· first | omega | (simp; done) | (simp; omega)))))⟩
end Go.Proofs.Ytgpkfgeflcdbcaa.K
