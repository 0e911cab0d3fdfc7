/- The walk of SpanJoins. -/
import Derived.Test.YtibimhjbhincnaaG2
import Derived.Test.YtibimhjbhincnaaNoteL
namespace Go.Proofs.Ytibimhjbhincnaa
set_option linter.unusedVariables false
set_option linter.unusedSimpArgs false
open Go.RowKit Fl

theorem join_lits (w : World) :
    Calls Try.prog 45 #[.agg #[.float .f64 4607182418800017408, .float .f64 4611686018427387904, .bool false, .bool true], .agg #[.float .f64 4611686018427387904, .float .f64 4613937818241073152, .bool false, .bool false]] w
      (Ret (.tuple #[.agg #[.float .f64 4607182418800017408, .float .f64 4613937818241073152, .bool false, .bool false], .bool true]) w) := by
  have h := join_any 4607182418800017408 4611686018427387904 4611686018427387904 4613937818241073152 false true false false w (by omega) (by omega) (by omega) (by omega)
  have c1 : canonS 4607182418800017408 4611686018427387904 false true = some (klit 4607182418800017408 (by unfold inf; omega), klit 4611686018427387903 (by unfold inf; omega)) := by
    refine canonS_some (by simp [klit_nan 4607182418800017408 (by unfold inf; omega), klit_nan 4611686018427387904 (by unfold inf; omega)]) ?_ ?_ ?_
    · rw [klit_kof 4607182418800017408 (by unfold inf; omega)]; simp
    · rw [klit_kof 4611686018427387904 (by unfold inf; omega)]; simp [klit]
    · simp [klit]
  have e1 : kLeast (klit 4607182418800017408 (by unfold inf; omega)) (klit 4611686018427387904 (by unfold inf; omega)) = klit 4607182418800017408 (by unfold inf; omega) := Key.ext' (by rw [kLeast_v]; simp [klit])
  have e2 : kMost (klit 4611686018427387903 (by unfold inf; omega)) (klit 4613937818241073152 (by unfold inf; omega)) = klit 4613937818241073152 (by unfold inf; omega) := Key.ext' (by rw [kMost_v]; simp [klit])
  have n1 : flt (knext (klit 4611686018427387903 (by unfold inf; omega))).bits (klit 4611686018427387904 (by unfold inf; omega)).bits = false := by
    rw [flt_kk, knext_v (by unfold inf; simp [klit])]; simp [klit]
  have n2 : flt (knext (klit 4613937818241073152 (by unfold inf; omega))).bits (klit 4607182418800017408 (by unfold inf; omega)).bits = false := by
    rw [flt_kk, knext_v (by unfold inf; simp [klit])]; simp [klit]
  rw [c1, canonS_lit 4611686018427387904 4613937818241073152 (by unfold inf; omega) (by unfold inf; omega) (by omega)] at h
  simp only [joinR, n1, n2, e1, e2, Bool.false_eq_true, if_false, at_spv] at h
  exact h

set_option maxRecDepth 100000 in
theorem spanJoins_w (lo hi lo' hi' : Nat) (a b a' b' : Bool) (r r' m : Rg) (ok : Bool) (w : World) (hl : lo < 2 ^ 64) (hh : hi < 2 ^ 64) (hl' : lo' < 2 ^ 64) (hh' : hi' < 2 ^ 64) (Hr : Hid (canonS lo hi a b = r)) (Hr' : Hid (canonS lo' hi' a' b' = r'))
    (Okr : Hid (okR r)) (Okr' : Hid (okR r')) (Hm : Hid (joinR r r' = (m, ok))) (Hm' : Hid (joinR (canonS lo hi a b) (canonS lo' hi' a' b') = (m, ok))) (Ok : Hid (okR m)) :
    Calls Try.prog 10 #[.agg #[.float .f64 lo, .float .f64 hi, .bool a, .bool b], .agg #[.float .f64 lo', .float .f64 hi', .bool a', .bool b']] w (Ret (.bool true) w) := by
  have h1 := feq_lit 4607182418800017408 (by unfold inf; omega)
  have h2 := feq_lit 4613937818241073152 (by unfold inf; omega)
  go_enter Try.func10, Try.ntmps10
  go_wp2_with (first | (go_at_call 25; (with_reducible refine (at_any _ _ _).mono ?_); rintro e w1 ⟨rfl, hb1⟩; obtain ⟨hc1, hf1⟩ := bcell hb1; (try simp only [World.heap_drewN, World.cell?_drewN, World.frozen?_drewN] at hc1 hf1); have hz1 := hb1.size; (try simp at hz1); (try have hy1_0 : w.heap.size < w1.heap.size := by omega); (try have hy1_1 : w.heap.size + 1 < w1.heap.size := by omega); (try have hy1_2 : w.heap.size + 2 < w1.heap.size := by omega); (try have hy1_3 : w.heap.size + 3 < w1.heap.size := by omega); (try have hx1_0 : w.heap.size ≤ w1.heap.size := by omega); (try have hx1_1 : w.heap.size + 1 ≤ w1.heap.size := by omega); (try have hx1_2 : w.heap.size + 2 ≤ w1.heap.size := by omega)) | (go_at_call 45; (with_reducible refine (join_lits _).mono ?_); rintro e w2 ⟨rfl, hb2⟩; obtain ⟨hc2, hf2⟩ := bcell hb2; (try simp only [World.heap_drewN, World.cell?_drewN, World.frozen?_drewN] at hc2 hf2); have hz2 := hb2.size; (try simp at hz2); (try have hy2_0 : w.heap.size < w2.heap.size := by omega); (try have hy2_1 : w.heap.size + 1 < w2.heap.size := by omega); (try have hy2_2 : w.heap.size + 2 < w2.heap.size := by omega); (try have hy2_3 : w.heap.size + 3 < w2.heap.size := by omega); (try have hx2_0 : w.heap.size ≤ w2.heap.size := by omega); (try have hx2_1 : w.heap.size + 1 ≤ w2.heap.size := by omega); (try have hx2_2 : w.heap.size + 2 ≤ w2.heap.size := by omega)))
  (refine wp_region_ext (by kernel_rfl) (by kernel_rfl) ?_; (repeat (go_big_quiet_step (first | (go_at_call 25; with_reducible exact Calls.ext_of (at_any _ _ _))))); refine wpQuiet_nil ?_; rintro w3 ⟨x3, hx3⟩; have hb3 := x3.b; rw [← hx3] at hb3; clear hx3 x3; obtain ⟨hc3, hf3⟩ := bcell hb3; (try simp only [World.heap_drewN, World.cell?_drewN, World.frozen?_drewN] at hc3 hf3); have hz3 := hb3.size; (try simp at hz3); (try have hy3_0 : w.heap.size < w3.heap.size := by omega); (try have hy3_1 : w.heap.size + 1 < w3.heap.size := by omega); (try have hy3_2 : w.heap.size + 2 < w3.heap.size := by omega); (try have hy3_3 : w.heap.size + 3 < w3.heap.size := by omega); (try have hx3_0 : w.heap.size ≤ w3.heap.size := by omega); (try have hx3_1 : w.heap.size + 1 ≤ w3.heap.size := by omega); (try have hx3_2 : w.heap.size + 2 ≤ w3.heap.size := by omega))
  clear h1 h2
  go_wp2_with (first | (go_at_call 45; (with_reducible refine (joinG lo hi lo' hi' a b a' b' m ok _ hl hh hl' hh' Hm').mono ?_); rintro e w4 ⟨rfl, hb4⟩; obtain ⟨hc4, hf4⟩ := bcell hb4; (try simp only [World.heap_drewN, World.cell?_drewN, World.frozen?_drewN] at hc4 hf4); have hz4 := hb4.size; (try simp at hz4); (try have hy4_0 : w.heap.size < w4.heap.size := by omega); (try have hy4_1 : w.heap.size + 1 < w4.heap.size := by omega); (try have hy4_2 : w.heap.size + 2 < w4.heap.size := by omega); (try have hy4_3 : w.heap.size + 3 < w4.heap.size := by omega); (try have hx4_0 : w.heap.size ≤ w4.heap.size := by omega); (try have hx4_1 : w.heap.size + 1 ≤ w4.heap.size := by omega); (try have hx4_2 : w.heap.size + 2 ≤ w4.heap.size := by omega)))
  refine wp_region_notes_late [Note.val (.agg #[.float .f64 lo, .float .f64 hi, .bool a, .bool b]), Note.val (.agg #[.int .u64 (rlo r), .int .u64 (rhi r)]), Note.val (.agg #[.float .f64 lo', .float .f64 hi', .bool a', .bool b']), Note.val (.agg #[.int .u64 (rlo r'), .int .u64 (rhi r')]), Note.val (.tuple #[.agg #[.int .u64 (rlo m), .int .u64 (rhi m)], .bool ok]), Note.val (.tuple #[.agg #[.int .u64 (rlo m), .int .u64 (rhi m)], .bool ok]), Note.val (.agg #[.int .u64 (rlo m), .int .u64 (rhi m)]), Note.val (.bool ok), Note.ptr [.int .u64 0, .int .u64 0]] 7 rfl (by kernel_rfl) (by kernel_rfl) ?_ ?_ ?_
  · simp only [List.length_cons, List.length_nil, Nat.reduceAdd, List.take_succ_cons, List.take_zero, StepsN, List.nil_append, List.cons_append]
    refine ⟨?_, ?_, ?_, ?_, ?_, ?_, ?_, ?_, ?_, trivial⟩
    · intro u w5 hb5 hd
      obtain ⟨hc5, hf5⟩ := bcell hb5
      have hz5 := hb5.size
      (try simp at hz5)
      (try have hy5_0 : w.heap.size < w5.heap.size := by omega)
      (try have hy5_1 : w.heap.size + 1 < w5.heap.size := by omega)
      (try have hy5_2 : w.heap.size + 2 < w5.heap.size := by omega)
      (try have hy5_3 : w.heap.size + 3 < w5.heap.size := by omega)
      (try have hx5_0 : w.heap.size ≤ w5.heap.size := by omega)
      (try have hx5_1 : w.heap.size + 1 ≤ w5.heap.size := by omega)
      (try have hx5_2 : w.heap.size + 2 ≤ w5.heap.size := by omega)
      (try (simp [Region.binds, Note.phi, cellsAre] at hd))
      revert hd
      (try simp only [putsFrom, Act.put, List.setIfInBounds_toArray, List.set_cons_zero, List.set_cons_succ, Nat.zero_add, Nat.reduceAdd])
      ((try simp only [forall_exists_index, and_imp]); intros)
      clear u
      go_wp2_with (first | (go_at_call 16; (with_reducible refine (refOfG lo hi a b r _ hl hh Hr).mono ?_); rintro e wy ⟨rfl, hby⟩) | (go_at_call 16; (with_reducible refine (refOfG lo' hi' a' b' r' _ hl' hh' Hr').mono ?_); rintro e wy ⟨rfl, hby⟩) | (go_at_call 46; (with_reducible refine (refJoinG r r' m ok _ Okr Okr' Hm).mono ?_); rintro e wy ⟨rfl, hby⟩))
      exact ⟨rfl, by (repeat (first | with_reducible exact Below.refl _ _ | ((with_reducible refine Below.alloc1 ?_ ?_ _); (· first | omega | (simp; done) | (simp; omega))) | (with_reducible refine Below.drew ?_) | (with_reducible refine below_drewN' ?_ _) | ((with_reducible refine Below.setCell1 ?_ ?_ _); (· first | omega | (simp; done) | (simp; omega))) | ((with_reducible refine Below.after (by assumption) ?_ ?_); (· first | omega | (simp; done) | (simp; omega))))), rfl⟩
    · intro u w5 hb5 hd
      obtain ⟨hc5, hf5⟩ := bcell hb5
      have hz5 := hb5.size
      (try simp at hz5)
      (try have hy5_0 : w.heap.size < w5.heap.size := by omega)
      (try have hy5_1 : w.heap.size + 1 < w5.heap.size := by omega)
      (try have hy5_2 : w.heap.size + 2 < w5.heap.size := by omega)
      (try have hy5_3 : w.heap.size + 3 < w5.heap.size := by omega)
      (try have hx5_0 : w.heap.size ≤ w5.heap.size := by omega)
      (try have hx5_1 : w.heap.size + 1 ≤ w5.heap.size := by omega)
      (try have hx5_2 : w.heap.size + 2 ≤ w5.heap.size := by omega)
      (try (simp [Region.binds, Note.phi, cellsAre] at hd))
      revert hd
      (try simp only [putsFrom, Act.put, List.setIfInBounds_toArray, List.set_cons_zero, List.set_cons_succ, Nat.zero_add, Nat.reduceAdd])
      generalize u 0 = u0
      ((try simp only [forall_exists_index, and_imp]); intros)
      (try subst u0)
      clear u
      go_wp2_with (first | (go_at_call 16; (with_reducible refine (refOfG lo hi a b r _ hl hh Hr).mono ?_); rintro e wy ⟨rfl, hby⟩) | (go_at_call 16; (with_reducible refine (refOfG lo' hi' a' b' r' _ hl' hh' Hr').mono ?_); rintro e wy ⟨rfl, hby⟩) | (go_at_call 46; (with_reducible refine (refJoinG r r' m ok _ Okr Okr' Hm).mono ?_); rintro e wy ⟨rfl, hby⟩))
      exact ⟨rfl, by (repeat (first | with_reducible exact Below.refl _ _ | ((with_reducible refine Below.alloc1 ?_ ?_ _); (· first | omega | (simp; done) | (simp; omega))) | (with_reducible refine Below.drew ?_) | (with_reducible refine below_drewN' ?_ _) | ((with_reducible refine Below.setCell1 ?_ ?_ _); (· first | omega | (simp; done) | (simp; omega))) | ((with_reducible refine Below.after (by assumption) ?_ ?_); (· first | omega | (simp; done) | (simp; omega))))), rfl⟩
    · intro u w5 hb5 hd
      obtain ⟨hc5, hf5⟩ := bcell hb5
      have hz5 := hb5.size
      (try simp at hz5)
      (try have hy5_0 : w.heap.size < w5.heap.size := by omega)
      (try have hy5_1 : w.heap.size + 1 < w5.heap.size := by omega)
      (try have hy5_2 : w.heap.size + 2 < w5.heap.size := by omega)
      (try have hy5_3 : w.heap.size + 3 < w5.heap.size := by omega)
      (try have hx5_0 : w.heap.size ≤ w5.heap.size := by omega)
      (try have hx5_1 : w.heap.size + 1 ≤ w5.heap.size := by omega)
      (try have hx5_2 : w.heap.size + 2 ≤ w5.heap.size := by omega)
      (try (simp [Region.binds, Note.phi, cellsAre] at hd))
      revert hd
      (try simp only [putsFrom, Act.put, List.setIfInBounds_toArray, List.set_cons_zero, List.set_cons_succ, Nat.zero_add, Nat.reduceAdd])
      generalize u 0 = u0
      generalize u 1 = u1
      ((try simp only [forall_exists_index, and_imp]); intros)
      (try subst u0)
      (try subst u1)
      clear u
      go_wp2_with (first | (go_at_call 16; (with_reducible refine (refOfG lo hi a b r _ hl hh Hr).mono ?_); rintro e wy ⟨rfl, hby⟩) | (go_at_call 16; (with_reducible refine (refOfG lo' hi' a' b' r' _ hl' hh' Hr').mono ?_); rintro e wy ⟨rfl, hby⟩) | (go_at_call 46; (with_reducible refine (refJoinG r r' m ok _ Okr Okr' Hm).mono ?_); rintro e wy ⟨rfl, hby⟩))
      exact ⟨rfl, by (repeat (first | with_reducible exact Below.refl _ _ | ((with_reducible refine Below.alloc1 ?_ ?_ _); (· first | omega | (simp; done) | (simp; omega))) | (with_reducible refine Below.drew ?_) | (with_reducible refine below_drewN' ?_ _) | ((with_reducible refine Below.setCell1 ?_ ?_ _); (· first | omega | (simp; done) | (simp; omega))) | ((with_reducible refine Below.after (by assumption) ?_ ?_); (· first | omega | (simp; done) | (simp; omega))))), rfl⟩
    · intro u w5 hb5 hd
      obtain ⟨hc5, hf5⟩ := bcell hb5
      have hz5 := hb5.size
      (try simp at hz5)
      (try have hy5_0 : w.heap.size < w5.heap.size := by omega)
      (try have hy5_1 : w.heap.size + 1 < w5.heap.size := by omega)
      (try have hy5_2 : w.heap.size + 2 < w5.heap.size := by omega)
      (try have hy5_3 : w.heap.size + 3 < w5.heap.size := by omega)
      (try have hx5_0 : w.heap.size ≤ w5.heap.size := by omega)
      (try have hx5_1 : w.heap.size + 1 ≤ w5.heap.size := by omega)
      (try have hx5_2 : w.heap.size + 2 ≤ w5.heap.size := by omega)
      (try (simp [Region.binds, Note.phi, cellsAre] at hd))
      revert hd
      (try simp only [putsFrom, Act.put, List.setIfInBounds_toArray, List.set_cons_zero, List.set_cons_succ, Nat.zero_add, Nat.reduceAdd])
      generalize u 0 = u0
      generalize u 1 = u1
      generalize u 2 = u2
      ((try simp only [forall_exists_index, and_imp]); intros)
      (try subst u0)
      (try subst u1)
      (try subst u2)
      clear u
      go_wp2_with (first | (go_at_call 16; (with_reducible refine (refOfG lo hi a b r _ hl hh Hr).mono ?_); rintro e wy ⟨rfl, hby⟩) | (go_at_call 16; (with_reducible refine (refOfG lo' hi' a' b' r' _ hl' hh' Hr').mono ?_); rintro e wy ⟨rfl, hby⟩) | (go_at_call 46; (with_reducible refine (refJoinG r r' m ok _ Okr Okr' Hm).mono ?_); rintro e wy ⟨rfl, hby⟩))
      exact ⟨rfl, by (repeat (first | with_reducible exact Below.refl _ _ | ((with_reducible refine Below.alloc1 ?_ ?_ _); (· first | omega | (simp; done) | (simp; omega))) | (with_reducible refine Below.drew ?_) | (with_reducible refine below_drewN' ?_ _) | ((with_reducible refine Below.setCell1 ?_ ?_ _); (· first | omega | (simp; done) | (simp; omega))) | ((with_reducible refine Below.after (by assumption) ?_ ?_); (· first | omega | (simp; done) | (simp; omega))))), rfl⟩
    · intro u w5 hb5 hd
      obtain ⟨hc5, hf5⟩ := bcell hb5
      have hz5 := hb5.size
      (try simp at hz5)
      (try have hy5_0 : w.heap.size < w5.heap.size := by omega)
      (try have hy5_1 : w.heap.size + 1 < w5.heap.size := by omega)
      (try have hy5_2 : w.heap.size + 2 < w5.heap.size := by omega)
      (try have hy5_3 : w.heap.size + 3 < w5.heap.size := by omega)
      (try have hx5_0 : w.heap.size ≤ w5.heap.size := by omega)
      (try have hx5_1 : w.heap.size + 1 ≤ w5.heap.size := by omega)
      (try have hx5_2 : w.heap.size + 2 ≤ w5.heap.size := by omega)
      (try (simp [Region.binds, Note.phi, cellsAre] at hd))
      revert hd
      (try simp only [putsFrom, Act.put, List.setIfInBounds_toArray, List.set_cons_zero, List.set_cons_succ, Nat.zero_add, Nat.reduceAdd])
      generalize u 0 = u0
      generalize u 1 = u1
      generalize u 2 = u2
      generalize u 3 = u3
      ((try simp only [forall_exists_index, and_imp]); intros)
      (try subst u0)
      (try subst u1)
      (try subst u2)
      (try subst u3)
      clear u
      go_wp2_with (first | (go_at_call 16; (with_reducible refine (refOfG lo hi a b r _ hl hh Hr).mono ?_); rintro e wy ⟨rfl, hby⟩) | (go_at_call 16; (with_reducible refine (refOfG lo' hi' a' b' r' _ hl' hh' Hr').mono ?_); rintro e wy ⟨rfl, hby⟩) | (go_at_call 46; (with_reducible refine (refJoinG r r' m ok _ Okr Okr' Hm).mono ?_); rintro e wy ⟨rfl, hby⟩))
      exact ⟨rfl, by (repeat (first | with_reducible exact Below.refl _ _ | ((with_reducible refine Below.alloc1 ?_ ?_ _); (· first | omega | (simp; done) | (simp; omega))) | (with_reducible refine Below.drew ?_) | (with_reducible refine below_drewN' ?_ _) | ((with_reducible refine Below.setCell1 ?_ ?_ _); (· first | omega | (simp; done) | (simp; omega))) | ((with_reducible refine Below.after (by assumption) ?_ ?_); (· first | omega | (simp; done) | (simp; omega))))), rfl⟩
    · intro u w5 hb5 hd
      obtain ⟨hc5, hf5⟩ := bcell hb5
      have hz5 := hb5.size
      (try simp at hz5)
      (try have hy5_0 : w.heap.size < w5.heap.size := by omega)
      (try have hy5_1 : w.heap.size + 1 < w5.heap.size := by omega)
      (try have hy5_2 : w.heap.size + 2 < w5.heap.size := by omega)
      (try have hy5_3 : w.heap.size + 3 < w5.heap.size := by omega)
      (try have hx5_0 : w.heap.size ≤ w5.heap.size := by omega)
      (try have hx5_1 : w.heap.size + 1 ≤ w5.heap.size := by omega)
      (try have hx5_2 : w.heap.size + 2 ≤ w5.heap.size := by omega)
      (try (simp [Region.binds, Note.phi, cellsAre] at hd))
      revert hd
      (try simp only [putsFrom, Act.put, List.setIfInBounds_toArray, List.set_cons_zero, List.set_cons_succ, Nat.zero_add, Nat.reduceAdd])
      generalize u 0 = u0
      generalize u 1 = u1
      generalize u 2 = u2
      generalize u 3 = u3
      generalize u 4 = u4
      ((try simp only [forall_exists_index, and_imp]); intros)
      (try subst u0)
      (try subst u1)
      (try subst u2)
      (try subst u3)
      (try subst u4)
      clear u
      go_wp2_with (first | (go_at_call 16; (with_reducible refine (refOfG lo hi a b r _ hl hh Hr).mono ?_); rintro e wy ⟨rfl, hby⟩) | (go_at_call 16; (with_reducible refine (refOfG lo' hi' a' b' r' _ hl' hh' Hr').mono ?_); rintro e wy ⟨rfl, hby⟩) | (go_at_call 46; (with_reducible refine (refJoinG r r' m ok _ Okr Okr' Hm).mono ?_); rintro e wy ⟨rfl, hby⟩))
      exact ⟨rfl, by (repeat (first | with_reducible exact Below.refl _ _ | ((with_reducible refine Below.alloc1 ?_ ?_ _); (· first | omega | (simp; done) | (simp; omega))) | (with_reducible refine Below.drew ?_) | (with_reducible refine below_drewN' ?_ _) | ((with_reducible refine Below.setCell1 ?_ ?_ _); (· first | omega | (simp; done) | (simp; omega))) | ((with_reducible refine Below.after (by assumption) ?_ ?_); (· first | omega | (simp; done) | (simp; omega))))), rfl⟩
    · intro u w5 hb5 hd
      obtain ⟨hc5, hf5⟩ := bcell hb5
      have hz5 := hb5.size
      (try simp at hz5)
      (try have hy5_0 : w.heap.size < w5.heap.size := by omega)
      (try have hy5_1 : w.heap.size + 1 < w5.heap.size := by omega)
      (try have hy5_2 : w.heap.size + 2 < w5.heap.size := by omega)
      (try have hy5_3 : w.heap.size + 3 < w5.heap.size := by omega)
      (try have hx5_0 : w.heap.size ≤ w5.heap.size := by omega)
      (try have hx5_1 : w.heap.size + 1 ≤ w5.heap.size := by omega)
      (try have hx5_2 : w.heap.size + 2 ≤ w5.heap.size := by omega)
      (try (simp [Region.binds, Note.phi, cellsAre] at hd))
      revert hd
      (try simp only [putsFrom, Act.put, List.setIfInBounds_toArray, List.set_cons_zero, List.set_cons_succ, Nat.zero_add, Nat.reduceAdd])
      generalize u 0 = u0
      generalize u 1 = u1
      generalize u 2 = u2
      generalize u 3 = u3
      generalize u 4 = u4
      generalize u 5 = u5
      ((try simp only [forall_exists_index, and_imp]); intros)
      (try subst u0)
      (try subst u1)
      (try subst u2)
      (try subst u3)
      (try subst u4)
      (try subst u5)
      clear u
      go_wp2_with (first | (go_at_call 16; (with_reducible refine (refOfG lo hi a b r _ hl hh Hr).mono ?_); rintro e wy ⟨rfl, hby⟩) | (go_at_call 16; (with_reducible refine (refOfG lo' hi' a' b' r' _ hl' hh' Hr').mono ?_); rintro e wy ⟨rfl, hby⟩) | (go_at_call 46; (with_reducible refine (refJoinG r r' m ok _ Okr Okr' Hm).mono ?_); rintro e wy ⟨rfl, hby⟩))
      exact ⟨rfl, by (repeat (first | with_reducible exact Below.refl _ _ | ((with_reducible refine Below.alloc1 ?_ ?_ _); (· first | omega | (simp; done) | (simp; omega))) | (with_reducible refine Below.drew ?_) | (with_reducible refine below_drewN' ?_ _) | ((with_reducible refine Below.setCell1 ?_ ?_ _); (· first | omega | (simp; done) | (simp; omega))) | ((with_reducible refine Below.after (by assumption) ?_ ?_); (· first | omega | (simp; done) | (simp; omega))))), rfl⟩
    · intro u w5 hb5 hd
      obtain ⟨hc5, hf5⟩ := bcell hb5
      have hz5 := hb5.size
      (try simp at hz5)
      (try have hy5_0 : w.heap.size < w5.heap.size := by omega)
      (try have hy5_1 : w.heap.size + 1 < w5.heap.size := by omega)
      (try have hy5_2 : w.heap.size + 2 < w5.heap.size := by omega)
      (try have hy5_3 : w.heap.size + 3 < w5.heap.size := by omega)
      (try have hx5_0 : w.heap.size ≤ w5.heap.size := by omega)
      (try have hx5_1 : w.heap.size + 1 ≤ w5.heap.size := by omega)
      (try have hx5_2 : w.heap.size + 2 ≤ w5.heap.size := by omega)
      (try (simp [Region.binds, Note.phi, cellsAre] at hd))
      revert hd
      (try simp only [putsFrom, Act.put, List.setIfInBounds_toArray, List.set_cons_zero, List.set_cons_succ, Nat.zero_add, Nat.reduceAdd])
      generalize u 0 = u0
      generalize u 1 = u1
      generalize u 2 = u2
      generalize u 3 = u3
      generalize u 4 = u4
      generalize u 5 = u5
      generalize u 6 = u6
      ((try simp only [forall_exists_index, and_imp]); intros)
      (try subst u0)
      (try subst u1)
      (try subst u2)
      (try subst u3)
      (try subst u4)
      (try subst u5)
      (try subst u6)
      clear u
      go_wp2_with (first | (go_at_call 16; (with_reducible refine (refOfG lo hi a b r _ hl hh Hr).mono ?_); rintro e wy ⟨rfl, hby⟩) | (go_at_call 16; (with_reducible refine (refOfG lo' hi' a' b' r' _ hl' hh' Hr').mono ?_); rintro e wy ⟨rfl, hby⟩) | (go_at_call 46; (with_reducible refine (refJoinG r r' m ok _ Okr Okr' Hm).mono ?_); rintro e wy ⟨rfl, hby⟩))
      exact ⟨rfl, by (repeat (first | with_reducible exact Below.refl _ _ | ((with_reducible refine Below.alloc1 ?_ ?_ _); (· first | omega | (simp; done) | (simp; omega))) | (with_reducible refine Below.drew ?_) | (with_reducible refine below_drewN' ?_ _) | ((with_reducible refine Below.setCell1 ?_ ?_ _); (· first | omega | (simp; done) | (simp; omega))) | ((with_reducible refine Below.after (by assumption) ?_ ?_); (· first | omega | (simp; done) | (simp; omega))))), rfl⟩
    · intro u w5 hb5 hd
      obtain ⟨hc5, hf5⟩ := bcell hb5
      have hz5 := hb5.size
      (try simp at hz5)
      (try have hy5_0 : w.heap.size < w5.heap.size := by omega)
      (try have hy5_1 : w.heap.size + 1 < w5.heap.size := by omega)
      (try have hy5_2 : w.heap.size + 2 < w5.heap.size := by omega)
      (try have hy5_3 : w.heap.size + 3 < w5.heap.size := by omega)
      (try have hx5_0 : w.heap.size ≤ w5.heap.size := by omega)
      (try have hx5_1 : w.heap.size + 1 ≤ w5.heap.size := by omega)
      (try have hx5_2 : w.heap.size + 2 ≤ w5.heap.size := by omega)
      (try (simp [Region.binds, Note.phi, cellsAre] at hd))
      revert hd
      (try simp only [putsFrom, Act.put, List.setIfInBounds_toArray, List.set_cons_zero, List.set_cons_succ, Nat.zero_add, Nat.reduceAdd])
      generalize u 0 = u0
      generalize u 1 = u1
      generalize u 2 = u2
      generalize u 3 = u3
      generalize u 4 = u4
      generalize u 5 = u5
      generalize u 6 = u6
      generalize u 7 = u7
      ((try simp only [forall_exists_index, and_imp]); intros)
      (try subst u0)
      (try subst u1)
      (try subst u2)
      (try subst u3)
      (try subst u4)
      (try subst u5)
      (try subst u6)
      (try subst u7)
      clear u
      go_wp2_with (first | (go_at_call 16; (with_reducible refine (refOfG lo hi a b r _ hl hh Hr).mono ?_); rintro e wy ⟨rfl, hby⟩) | (go_at_call 16; (with_reducible refine (refOfG lo' hi' a' b' r' _ hl' hh' Hr').mono ?_); rintro e wy ⟨rfl, hby⟩) | (go_at_call 46; (with_reducible refine (refJoinG r r' m ok _ Okr Okr' Hm).mono ?_); rintro e wy ⟨rfl, hby⟩))
      exact ⟨rfl, by (repeat (first | with_reducible exact Below.refl _ _ | ((with_reducible refine Below.alloc1 ?_ ?_ _); (· first | omega | (simp; done) | (simp; omega))) | (with_reducible refine Below.drew ?_) | (with_reducible refine below_drewN' ?_ _) | ((with_reducible refine Below.setCell1 ?_ ?_ _); (· first | omega | (simp; done) | (simp; omega))) | ((with_reducible refine Below.after (by assumption) ?_ ?_); (· first | omega | (simp; done) | (simp; omega))))), w5.heap.size, rfl, Nat.le_refl _, by simp, by simp [cellsAre, go_sem]⟩
  intro u w5 hb5 hph hap
  obtain ⟨hc5, hf5⟩ := bcell hb5
  have hz5 := hb5.size
  (try simp at hz5)
  (try have hy5_0 : w.heap.size < w5.heap.size := by omega)
  (try have hy5_1 : w.heap.size + 1 < w5.heap.size := by omega)
  (try have hy5_2 : w.heap.size + 2 < w5.heap.size := by omega)
  (try have hy5_3 : w.heap.size + 3 < w5.heap.size := by omega)
  (try have hx5_0 : w.heap.size ≤ w5.heap.size := by omega)
  (try have hx5_1 : w.heap.size + 1 ≤ w5.heap.size := by omega)
  (try have hx5_2 : w.heap.size + 2 ≤ w5.heap.size := by omega)
  have hp0 := hph 0 (by simp)
  have hp1 := hph 1 (by simp)
  have hp2 := hph 2 (by simp)
  have hp3 := hph 3 (by simp)
  have hp4 := hph 4 (by simp)
  have hp5 := hph 5 (by simp)
  have hp6 := hph 6 (by simp)
  have hp7 := hph 7 (by simp)
  have hp8 := hph 8 (by simp)
  clear hph hap
  simp only [List.length_cons, List.length_nil, List.take_succ_cons, List.take_zero, List.drop_succ_cons, List.drop_zero, List.cons_append, List.nil_append, putsFrom, putsBut, Act.put, List.setIfInBounds_toArray, List.set_cons_zero, List.set_cons_succ, Nat.zero_add, Nat.reduceAdd, Nat.reduceEqDiff, if_true, if_false, reduceIte, Nat.zero_ne_one, Nat.one_ne_zero]
  generalize u 0 = u0 at *
  generalize u 1 = u1 at *
  generalize u 2 = u2 at *
  generalize u 3 = u3 at *
  generalize u 4 = u4 at *
  generalize u 5 = u5 at *
  generalize u 6 = u6 at *
  generalize u 7 = u7 at *
  generalize u 8 = u8 at *
  clear u
  cases hp0
  cases hp1
  cases hp2
  cases hp3
  cases hp4
  cases hp5
  cases hp6
  cases hp7
  obtain ⟨B8, rfl, hl8, hg8, hs8⟩ := hp8
  simp only [cellsAre, and_true] at hs8
  rotate_left
  intro u w5 hb5 hph hap
  obtain ⟨hc5, hf5⟩ := bcell hb5
  have hz5 := hb5.size
  (try simp at hz5)
  (try have hy5_0 : w.heap.size < w5.heap.size := by omega)
  (try have hy5_1 : w.heap.size + 1 < w5.heap.size := by omega)
  (try have hy5_2 : w.heap.size + 2 < w5.heap.size := by omega)
  (try have hy5_3 : w.heap.size + 3 < w5.heap.size := by omega)
  (try have hx5_0 : w.heap.size ≤ w5.heap.size := by omega)
  (try have hx5_1 : w.heap.size + 1 ≤ w5.heap.size := by omega)
  (try have hx5_2 : w.heap.size + 2 ≤ w5.heap.size := by omega)
  have hp0 := hph 0 (by simp) (by decide)
  have hp1 := hph 1 (by simp) (by decide)
  have hp2 := hph 2 (by simp) (by decide)
  have hp3 := hph 3 (by simp) (by decide)
  have hp4 := hph 4 (by simp) (by decide)
  have hp5 := hph 5 (by simp) (by decide)
  have hp6 := hph 6 (by simp) (by decide)
  have hp8 := hph 8 (by simp) (by decide)
  clear hph hap
  simp only [List.length_cons, List.length_nil, List.take_succ_cons, List.take_zero, List.drop_succ_cons, List.drop_zero, List.cons_append, List.nil_append, putsFrom, putsBut, Act.put, List.setIfInBounds_toArray, List.set_cons_zero, List.set_cons_succ, Nat.zero_add, Nat.reduceAdd, Nat.reduceEqDiff, if_true, if_false, reduceIte, Nat.zero_ne_one, Nat.one_ne_zero]
  generalize u 0 = u0 at *
  generalize u 1 = u1 at *
  generalize u 2 = u2 at *
  generalize u 3 = u3 at *
  generalize u 4 = u4 at *
  generalize u 5 = u5 at *
  generalize u 6 = u6 at *
  generalize u 8 = u8 at *
  clear u
  cases hp0
  cases hp1
  cases hp2
  cases hp3
  cases hp4
  cases hp5
  cases hp6
  obtain ⟨B8, rfl, hl8, hg8, hs8⟩ := hp8
  simp only [cellsAre, and_true] at hs8
  rotate_left
  all_goals
    go_wp2_with fail
    have hq4 : w4.heap.size < w5.heap.size := by omega
    have hq8 : B8 < w5.heap.size := by omega
    have hq9 : w4.heap.size < B8 := by simp at hl8; omega
    (refine wp_region_ext (by kernel_rfl) (by kernel_rfl) ?_; (repeat (go_big_quiet_step (first | (go_at_call 19; with_reducible exact Calls.ext_of (refSpanG m _ Ok)) | (go_at_call 17; with_reducible exact Calls.ext_of (sameSpanG m _))))); refine wpQuiet_nil ?_; rintro w6 ⟨x6, hx6⟩; have hb6 := x6.b; rw [← hx6] at hb6; clear hx6 x6; obtain ⟨hc6, hf6⟩ := bcell hb6; (try simp only [World.heap_drewN, World.cell?_drewN, World.frozen?_drewN] at hc6 hf6); have hz6 := hb6.size; (try simp at hz6); (try have hy6_0 : w.heap.size < w6.heap.size := by omega); (try have hy6_1 : w.heap.size + 1 < w6.heap.size := by omega); (try have hy6_2 : w.heap.size + 2 < w6.heap.size := by omega); (try have hy6_3 : w.heap.size + 3 < w6.heap.size := by omega); (try have hx6_0 : w.heap.size ≤ w6.heap.size := by omega); (try have hx6_1 : w.heap.size + 1 ≤ w6.heap.size := by omega); (try have hx6_2 : w.heap.size + 2 ≤ w6.heap.size := by omega))
    go_wp2_with fail
    exact bodyPost_ret (v := .bool true) (by simp [results, Try.results10, go_sem, *]) rfl ⟨rfl, by (repeat (first | with_reducible exact Below.refl _ _ | ((with_reducible refine Below.alloc1 ?_ ?_ _); (· first | omega | (simp; done) | (simp; omega))) | (with_reducible refine Below.drew ?_) | (with_reducible refine below_drewN' ?_ _) | ((with_reducible refine Below.setCell1 ?_ ?_ _); (· first | omega | (simp; done) | (simp; omega))) | ((with_reducible refine Below.after (by assumption) ?_ ?_); (· first | omega | (simp; done) | (simp; omega)))))⟩

theorem spanJoins_walk (lo hi : Nat) (a b : Bool) (lo' hi' : Nat) (a' b' : Bool) (w : World) (hl : lo < 2 ^ 64) (hh : hi < 2 ^ 64) (hl' : lo' < 2 ^ 64) (hh' : hi' < 2 ^ 64) :
    Calls Try.prog 10 #[.agg #[.float .f64 lo, .float .f64 hi, .bool a, .bool b], .agg #[.float .f64 lo', .float .f64 hi', .bool a', .bool b']] w (Ret (.bool true) w) := by
  exact spanJoins_w lo hi lo' hi' a b a' b' _ _ _ _ w hl hh hl' hh' (hid rfl) (hid rfl) (hid (okR_canon _ _ _ _)) (hid (okR_canon _ _ _ _)) (hid rfl) (hid rfl) (hid (okR_join (okR_canon _ _ _ _) (okR_canon _ _ _ _)))
end Go.Proofs.Ytibimhjbhincnaa
