/- The walk of SpanMeets. -/
import Derived.Test.YtibimhjbhincnaaG2
namespace Go.Proofs.Ytibimhjbhincnaa
set_option linter.unusedVariables false
set_option linter.unusedSimpArgs false
open Go.RowKit Fl

theorem meet_lits (w : World) :
    Calls Try.prog 41 #[.agg #[.float .f64 4607182418800017408, .float .f64 4613937818241073152, .bool false, .bool false], .agg #[.float .f64 4611686018427387904, .float .f64 4617315517961601024, .bool false, .bool false]] w (Ret (.agg #[.float .f64 4611686018427387904, .float .f64 4613937818241073152, .bool false, .bool false]) w) := by
  have h := meet_any 4607182418800017408 4613937818241073152 4611686018427387904 4617315517961601024 false false false false w (by omega) (by omega) (by omega) (by omega)
  rw [canonS_lit 4607182418800017408 4613937818241073152 (by unfold inf; omega) (by unfold inf; omega) (by omega), canonS_lit 4611686018427387904 4617315517961601024 (by unfold inf; omega) (by unfold inf; omega) (by omega), meetR_ss] at h
  have e1 : kMost (klit 4607182418800017408 (by unfold inf; omega)) (klit 4611686018427387904 (by unfold inf; omega)) = klit 4611686018427387904 (by unfold inf; omega) := Key.ext' (by rw [kMost_v]; simp [klit])
  have e2 : kLeast (klit 4613937818241073152 (by unfold inf; omega)) (klit 4617315517961601024 (by unfold inf; omega)) = klit 4613937818241073152 (by unfold inf; omega) := Key.ext' (by rw [kLeast_v]; simp [klit])
  rw [e1, e2, if_neg (by simp [klit]), at_spv] at h
  exact h

set_option maxRecDepth 100000 in
theorem meets_E (lo hi lo' hi' : Nat) (a b a' b' : Bool) (r r' m : Rg) (v : Bool) (w : World) (hl : lo < 2 ^ 64) (hh : hi < 2 ^ 64) (hl' : lo' < 2 ^ 64) (hh' : hi' < 2 ^ 64) (Hr : Hid (canonS lo hi a b = r)) (Hr' : Hid (canonS lo' hi' a' b' = r'))
    (Hm : Hid (meetR r r' = m)) (Hm' : Hid (meetR (canonS lo hi a b) (canonS lo' hi' a' b') = m)) (Ok : Hid (okR m)) (Okr : Hid (okR r)) (Hv : Hid (m.isNone = v)) (Hv' : Hid ((meetR (canonS lo hi a b) (canonS lo' hi' a' b')).isNone = v))
    (Hw : Hid (withinB (meetR (canonS lo hi a b) (canonS lo' hi' a' b')) (canonS lo hi a b) = true)) (He : Hid (r.isNone = true)) :
    Calls Try.prog 9 #[.agg #[.float .f64 lo, .float .f64 hi, .bool a, .bool b], .agg #[.float .f64 lo', .float .f64 hi', .bool a', .bool b']] w (Ret (.bool true) w) := by
  have h1 := feq_lit 4611686018427387904 (by unfold inf; omega)
  have h2 := feq_lit 4613937818241073152 (by unfold inf; omega)
  go_enter Try.func9, Try.ntmps9
  go_wp2_with (first | (go_at_call 25; (with_reducible refine (at_any _ _ _).mono ?_); rintro e w1 ⟨rfl, hb1⟩; obtain ⟨hc1, hf1⟩ := bcell hb1; (try simp only [World.heap_drewN, World.cell?_drewN, World.frozen?_drewN] at hc1 hf1); have hz1 := hb1.size; (try simp at hz1); (try have hy1_0 : w.heap.size < w1.heap.size := by omega); (try have hy1_1 : w.heap.size + 1 < w1.heap.size := by omega); (try have hy1_2 : w.heap.size + 2 < w1.heap.size := by omega); (try have hy1_3 : w.heap.size + 3 < w1.heap.size := by omega); (try have hx1_0 : w.heap.size ≤ w1.heap.size := by omega); (try have hx1_1 : w.heap.size + 1 ≤ w1.heap.size := by omega); (try have hx1_2 : w.heap.size + 2 ≤ w1.heap.size := by omega)) | (go_at_call 41; (with_reducible refine (meet_lits _).mono ?_); rintro e w2 ⟨rfl, hb2⟩; obtain ⟨hc2, hf2⟩ := bcell hb2; (try simp only [World.heap_drewN, World.cell?_drewN, World.frozen?_drewN] at hc2 hf2); have hz2 := hb2.size; (try simp at hz2); (try have hy2_0 : w.heap.size < w2.heap.size := by omega); (try have hy2_1 : w.heap.size + 1 < w2.heap.size := by omega); (try have hy2_2 : w.heap.size + 2 < w2.heap.size := by omega); (try have hy2_3 : w.heap.size + 3 < w2.heap.size := by omega); (try have hx2_0 : w.heap.size ≤ w2.heap.size := by omega); (try have hx2_1 : w.heap.size + 1 ≤ w2.heap.size := by omega); (try have hx2_2 : w.heap.size + 2 ≤ w2.heap.size := by omega)))
  clear h1 h2
  refine wp_region_notes [Note.val (.agg #[.float .f64 lo, .float .f64 hi, .bool a, .bool b]), Note.val (.agg #[.int .u64 (rlo r), .int .u64 (rhi r)]), Note.val (.agg #[.float .f64 lo', .float .f64 hi', .bool a', .bool b']), Note.val (.agg #[.int .u64 (rlo r'), .int .u64 (rhi r')]), Note.ptr [.int .u64 0, .int .u64 0], Note.ptr [.int .u64 0, .int .u64 0]] rfl (by kernel_rfl) (by kernel_rfl) ?_ ?_
  · simp only [List.length_cons, List.length_nil, Nat.reduceAdd, List.take_succ_cons, List.take_zero, StepsN, List.nil_append, List.cons_append]
    refine ⟨?_, ?_, ?_, ?_, ?_, ?_, trivial⟩
    · intro u w3 hb3 hd
      obtain ⟨hc3, hf3⟩ := bcell hb3
      have hz3 := hb3.size
      (try simp at hz3)
      (try have hy3_0 : w.heap.size < w3.heap.size := by omega)
      (try have hy3_1 : w.heap.size + 1 < w3.heap.size := by omega)
      (try have hy3_2 : w.heap.size + 2 < w3.heap.size := by omega)
      (try have hy3_3 : w.heap.size + 3 < w3.heap.size := by omega)
      (try have hx3_0 : w.heap.size ≤ w3.heap.size := by omega)
      (try have hx3_1 : w.heap.size + 1 ≤ w3.heap.size := by omega)
      (try have hx3_2 : w.heap.size + 2 ≤ w3.heap.size := by omega)
      (try (simp [Region.binds, Note.phi, cellsAre] at hd))
      revert hd
      (try simp only [putsFrom, Act.put, List.setIfInBounds_toArray, List.set_cons_zero, List.set_cons_succ, Nat.zero_add, Nat.reduceAdd])
      ((try simp only [forall_exists_index, and_imp]); intros)
      clear u
      go_wp2_with (first | (go_at_call 16; (with_reducible refine (refOfG lo hi a b r _ hl hh Hr).mono ?_); rintro e wy ⟨rfl, hby⟩) | (go_at_call 16; (with_reducible refine (refOfG lo' hi' a' b' r' _ hl' hh' Hr').mono ?_); rintro e wy ⟨rfl, hby⟩))
      exact ⟨rfl, by (repeat (first | with_reducible exact Below.refl _ _ | ((with_reducible refine Below.alloc1 ?_ ?_ _); (· first | omega | (simp; done) | (simp; omega))) | (with_reducible refine Below.drew ?_) | (with_reducible refine below_drewN' ?_ _) | ((with_reducible refine Below.setCell1 ?_ ?_ _); (· first | omega | (simp; done) | (simp; omega))) | ((with_reducible refine Below.after (by assumption) ?_ ?_); (· first | omega | (simp; done) | (simp; omega))))), rfl⟩
    · intro u w3 hb3 hd
      obtain ⟨hc3, hf3⟩ := bcell hb3
      have hz3 := hb3.size
      (try simp at hz3)
      (try have hy3_0 : w.heap.size < w3.heap.size := by omega)
      (try have hy3_1 : w.heap.size + 1 < w3.heap.size := by omega)
      (try have hy3_2 : w.heap.size + 2 < w3.heap.size := by omega)
      (try have hy3_3 : w.heap.size + 3 < w3.heap.size := by omega)
      (try have hx3_0 : w.heap.size ≤ w3.heap.size := by omega)
      (try have hx3_1 : w.heap.size + 1 ≤ w3.heap.size := by omega)
      (try have hx3_2 : w.heap.size + 2 ≤ w3.heap.size := by omega)
      (try (simp [Region.binds, Note.phi, cellsAre] at hd))
      revert hd
      (try simp only [putsFrom, Act.put, List.setIfInBounds_toArray, List.set_cons_zero, List.set_cons_succ, Nat.zero_add, Nat.reduceAdd])
      generalize u 0 = u0
      ((try simp only [forall_exists_index, and_imp]); intros)
      (try subst u0)
      clear u
      go_wp2_with (first | (go_at_call 16; (with_reducible refine (refOfG lo hi a b r _ hl hh Hr).mono ?_); rintro e wy ⟨rfl, hby⟩) | (go_at_call 16; (with_reducible refine (refOfG lo' hi' a' b' r' _ hl' hh' Hr').mono ?_); rintro e wy ⟨rfl, hby⟩))
      exact ⟨rfl, by (repeat (first | with_reducible exact Below.refl _ _ | ((with_reducible refine Below.alloc1 ?_ ?_ _); (· first | omega | (simp; done) | (simp; omega))) | (with_reducible refine Below.drew ?_) | (with_reducible refine below_drewN' ?_ _) | ((with_reducible refine Below.setCell1 ?_ ?_ _); (· first | omega | (simp; done) | (simp; omega))) | ((with_reducible refine Below.after (by assumption) ?_ ?_); (· first | omega | (simp; done) | (simp; omega))))), rfl⟩
    · intro u w3 hb3 hd
      obtain ⟨hc3, hf3⟩ := bcell hb3
      have hz3 := hb3.size
      (try simp at hz3)
      (try have hy3_0 : w.heap.size < w3.heap.size := by omega)
      (try have hy3_1 : w.heap.size + 1 < w3.heap.size := by omega)
      (try have hy3_2 : w.heap.size + 2 < w3.heap.size := by omega)
      (try have hy3_3 : w.heap.size + 3 < w3.heap.size := by omega)
      (try have hx3_0 : w.heap.size ≤ w3.heap.size := by omega)
      (try have hx3_1 : w.heap.size + 1 ≤ w3.heap.size := by omega)
      (try have hx3_2 : w.heap.size + 2 ≤ w3.heap.size := by omega)
      (try (simp [Region.binds, Note.phi, cellsAre] at hd))
      revert hd
      (try simp only [putsFrom, Act.put, List.setIfInBounds_toArray, List.set_cons_zero, List.set_cons_succ, Nat.zero_add, Nat.reduceAdd])
      generalize u 0 = u0
      generalize u 1 = u1
      ((try simp only [forall_exists_index, and_imp]); intros)
      (try subst u0)
      (try subst u1)
      clear u
      go_wp2_with (first | (go_at_call 16; (with_reducible refine (refOfG lo hi a b r _ hl hh Hr).mono ?_); rintro e wy ⟨rfl, hby⟩) | (go_at_call 16; (with_reducible refine (refOfG lo' hi' a' b' r' _ hl' hh' Hr').mono ?_); rintro e wy ⟨rfl, hby⟩))
      exact ⟨rfl, by (repeat (first | with_reducible exact Below.refl _ _ | ((with_reducible refine Below.alloc1 ?_ ?_ _); (· first | omega | (simp; done) | (simp; omega))) | (with_reducible refine Below.drew ?_) | (with_reducible refine below_drewN' ?_ _) | ((with_reducible refine Below.setCell1 ?_ ?_ _); (· first | omega | (simp; done) | (simp; omega))) | ((with_reducible refine Below.after (by assumption) ?_ ?_); (· first | omega | (simp; done) | (simp; omega))))), rfl⟩
    · intro u w3 hb3 hd
      obtain ⟨hc3, hf3⟩ := bcell hb3
      have hz3 := hb3.size
      (try simp at hz3)
      (try have hy3_0 : w.heap.size < w3.heap.size := by omega)
      (try have hy3_1 : w.heap.size + 1 < w3.heap.size := by omega)
      (try have hy3_2 : w.heap.size + 2 < w3.heap.size := by omega)
      (try have hy3_3 : w.heap.size + 3 < w3.heap.size := by omega)
      (try have hx3_0 : w.heap.size ≤ w3.heap.size := by omega)
      (try have hx3_1 : w.heap.size + 1 ≤ w3.heap.size := by omega)
      (try have hx3_2 : w.heap.size + 2 ≤ w3.heap.size := by omega)
      (try (simp [Region.binds, Note.phi, cellsAre] at hd))
      revert hd
      (try simp only [putsFrom, Act.put, List.setIfInBounds_toArray, List.set_cons_zero, List.set_cons_succ, Nat.zero_add, Nat.reduceAdd])
      generalize u 0 = u0
      generalize u 1 = u1
      generalize u 2 = u2
      ((try simp only [forall_exists_index, and_imp]); intros)
      (try subst u0)
      (try subst u1)
      (try subst u2)
      clear u
      go_wp2_with (first | (go_at_call 16; (with_reducible refine (refOfG lo hi a b r _ hl hh Hr).mono ?_); rintro e wy ⟨rfl, hby⟩) | (go_at_call 16; (with_reducible refine (refOfG lo' hi' a' b' r' _ hl' hh' Hr').mono ?_); rintro e wy ⟨rfl, hby⟩))
      exact ⟨rfl, by (repeat (first | with_reducible exact Below.refl _ _ | ((with_reducible refine Below.alloc1 ?_ ?_ _); (· first | omega | (simp; done) | (simp; omega))) | (with_reducible refine Below.drew ?_) | (with_reducible refine below_drewN' ?_ _) | ((with_reducible refine Below.setCell1 ?_ ?_ _); (· first | omega | (simp; done) | (simp; omega))) | ((with_reducible refine Below.after (by assumption) ?_ ?_); (· first | omega | (simp; done) | (simp; omega))))), rfl⟩
    · intro u w3 hb3 hd
      obtain ⟨hc3, hf3⟩ := bcell hb3
      have hz3 := hb3.size
      (try simp at hz3)
      (try have hy3_0 : w.heap.size < w3.heap.size := by omega)
      (try have hy3_1 : w.heap.size + 1 < w3.heap.size := by omega)
      (try have hy3_2 : w.heap.size + 2 < w3.heap.size := by omega)
      (try have hy3_3 : w.heap.size + 3 < w3.heap.size := by omega)
      (try have hx3_0 : w.heap.size ≤ w3.heap.size := by omega)
      (try have hx3_1 : w.heap.size + 1 ≤ w3.heap.size := by omega)
      (try have hx3_2 : w.heap.size + 2 ≤ w3.heap.size := by omega)
      (try (simp [Region.binds, Note.phi, cellsAre] at hd))
      revert hd
      (try simp only [putsFrom, Act.put, List.setIfInBounds_toArray, List.set_cons_zero, List.set_cons_succ, Nat.zero_add, Nat.reduceAdd])
      generalize u 0 = u0
      generalize u 1 = u1
      generalize u 2 = u2
      generalize u 3 = u3
      ((try simp only [forall_exists_index, and_imp]); intros)
      (try subst u0)
      (try subst u1)
      (try subst u2)
      (try subst u3)
      clear u
      go_wp2_with (first | (go_at_call 16; (with_reducible refine (refOfG lo hi a b r _ hl hh Hr).mono ?_); rintro e wy ⟨rfl, hby⟩) | (go_at_call 16; (with_reducible refine (refOfG lo' hi' a' b' r' _ hl' hh' Hr').mono ?_); rintro e wy ⟨rfl, hby⟩))
      exact ⟨rfl, by (repeat (first | with_reducible exact Below.refl _ _ | ((with_reducible refine Below.alloc1 ?_ ?_ _); (· first | omega | (simp; done) | (simp; omega))) | (with_reducible refine Below.drew ?_) | (with_reducible refine below_drewN' ?_ _) | ((with_reducible refine Below.setCell1 ?_ ?_ _); (· first | omega | (simp; done) | (simp; omega))) | ((with_reducible refine Below.after (by assumption) ?_ ?_); (· first | omega | (simp; done) | (simp; omega))))), w3.heap.size, rfl, Nat.le_refl _, by simp, by simp [cellsAre, go_sem]⟩
    · intro u w3 hb3 hd
      obtain ⟨hc3, hf3⟩ := bcell hb3
      have hz3 := hb3.size
      (try simp at hz3)
      (try have hy3_0 : w.heap.size < w3.heap.size := by omega)
      (try have hy3_1 : w.heap.size + 1 < w3.heap.size := by omega)
      (try have hy3_2 : w.heap.size + 2 < w3.heap.size := by omega)
      (try have hy3_3 : w.heap.size + 3 < w3.heap.size := by omega)
      (try have hx3_0 : w.heap.size ≤ w3.heap.size := by omega)
      (try have hx3_1 : w.heap.size + 1 ≤ w3.heap.size := by omega)
      (try have hx3_2 : w.heap.size + 2 ≤ w3.heap.size := by omega)
      (try (simp [Region.binds, Note.phi, cellsAre] at hd))
      revert hd
      (try simp only [putsFrom, Act.put, List.setIfInBounds_toArray, List.set_cons_zero, List.set_cons_succ, Nat.zero_add, Nat.reduceAdd])
      generalize u 0 = u0
      generalize u 1 = u1
      generalize u 2 = u2
      generalize u 3 = u3
      generalize u 4 = u4
      ((try simp only [forall_exists_index, and_imp]); intros)
      (try subst u0)
      (try subst u1)
      (try subst u2)
      (try subst u3)
      (try subst u4)
      clear u
      go_wp2_with (first | (go_at_call 16; (with_reducible refine (refOfG lo hi a b r _ hl hh Hr).mono ?_); rintro e wy ⟨rfl, hby⟩) | (go_at_call 16; (with_reducible refine (refOfG lo' hi' a' b' r' _ hl' hh' Hr').mono ?_); rintro e wy ⟨rfl, hby⟩))
      exact ⟨rfl, by (repeat (first | with_reducible exact Below.refl _ _ | ((with_reducible refine Below.alloc1 ?_ ?_ _); (· first | omega | (simp; done) | (simp; omega))) | (with_reducible refine Below.drew ?_) | (with_reducible refine below_drewN' ?_ _) | ((with_reducible refine Below.setCell1 ?_ ?_ _); (· first | omega | (simp; done) | (simp; omega))) | ((with_reducible refine Below.after (by assumption) ?_ ?_); (· first | omega | (simp; done) | (simp; omega))))), w3.heap.size, rfl, Nat.le_refl _, by simp, by simp [cellsAre, go_sem]⟩
  · intro u w3 hb3 hph hap
    obtain ⟨hc3, hf3⟩ := bcell hb3
    have hz3 := hb3.size
    (try simp at hz3)
    (try have hy3_0 : w.heap.size < w3.heap.size := by omega)
    (try have hy3_1 : w.heap.size + 1 < w3.heap.size := by omega)
    (try have hy3_2 : w.heap.size + 2 < w3.heap.size := by omega)
    (try have hy3_3 : w.heap.size + 3 < w3.heap.size := by omega)
    (try have hx3_0 : w.heap.size ≤ w3.heap.size := by omega)
    (try have hx3_1 : w.heap.size + 1 ≤ w3.heap.size := by omega)
    (try have hx3_2 : w.heap.size + 2 ≤ w3.heap.size := by omega)
    have hp0 := hph 0 (by simp)
    have hp1 := hph 1 (by simp)
    have hp2 := hph 2 (by simp)
    have hp3 := hph 3 (by simp)
    have hp4 := hph 4 (by simp)
    have hp5 := hph 5 (by simp)
    have ha4_5 := hap 4 5 (by simp) (by simp) (by decide) rfl rfl
    have ha5_4 := hap 5 4 (by simp) (by simp) (by decide) rfl rfl
    clear hph hap
    simp only [List.length_cons, List.length_nil, List.take_succ_cons, List.take_zero, List.drop_succ_cons, List.drop_zero, putsFrom, Act.put, List.setIfInBounds_toArray, List.set_cons_zero, List.set_cons_succ, Nat.zero_add, Nat.reduceAdd]
    generalize u 0 = u0 at *
    generalize u 1 = u1 at *
    generalize u 2 = u2 at *
    generalize u 3 = u3 at *
    generalize u 4 = u4 at *
    generalize u 5 = u5 at *
    clear u
    cases hp0
    cases hp1
    cases hp2
    cases hp3
    obtain ⟨B4, rfl, hl4, hg4, hs4⟩ := hp4
    simp only [cellsAre, and_true] at hs4
    obtain ⟨B5, rfl, hl5, hg5, hs5⟩ := hp5
    simp only [cellsAre, and_true] at hs5
    simp only [blkOf, ne_eq, Option.some.injEq] at ha4_5
    simp only [blkOf, ne_eq, Option.some.injEq] at ha5_4
    go_wp2_with (first | (go_at_call 42; (with_reducible refine (refMeetG r r' m _ Hm).mono ?_); rintro e w4 ⟨rfl, hb4⟩; obtain ⟨hc4, hf4⟩ := bcell hb4; (try simp only [World.heap_drewN, World.cell?_drewN, World.frozen?_drewN] at hc4 hf4); have hz4 := hb4.size; (try simp at hz4); (try have hy4_0 : w.heap.size < w4.heap.size := by omega); (try have hy4_1 : w.heap.size + 1 < w4.heap.size := by omega); (try have hy4_2 : w.heap.size + 2 < w4.heap.size := by omega); (try have hy4_3 : w.heap.size + 3 < w4.heap.size := by omega); (try have hx4_0 : w.heap.size ≤ w4.heap.size := by omega); (try have hx4_1 : w.heap.size + 1 ≤ w4.heap.size := by omega); (try have hx4_2 : w.heap.size + 2 ≤ w4.heap.size := by omega)))
    have hq4 : B4 < w4.heap.size := by omega
    have hq5 : B5 < w4.heap.size := by omega
    (refine wp_region_ext (by kernel_rfl) (by kernel_rfl) ?_; (repeat (go_big_quiet_step (first | (go_at_call 41; with_reducible exact Calls.ext_of (meetG lo hi lo' hi' a b a' b' m _ hl hh hl' hh' Hm')) | (go_at_call 19; with_reducible exact Calls.ext_of (refSpanG m _ Ok)) | (go_at_call 17; with_reducible exact Calls.ext_of (sameSpanG m _)) | (go_at_call 43; with_reducible exact Calls.ext_of (apart_is lo hi lo' hi' a b a' b' v _ hl hh hl' hh' Hv')) | (go_at_call 21; with_reducible exact Calls.ext_of (refEmptyG m v _ Ok Hv)) | (go_at_call 44; with_reducible exact Calls.ext_of (within_is lo hi lo' hi' a b a' b' true _ hl hh hl' hh' Hw)) | (go_at_call 21; with_reducible exact Calls.ext_of (refEmptyG r true _ Okr He))))); refine wpQuiet_nil ?_; rintro w5 ⟨x5, hx5⟩; have hb5 := x5.b; rw [← hx5] at hb5; clear hx5 x5; obtain ⟨hc5, hf5⟩ := bcell hb5; (try simp only [World.heap_drewN, World.cell?_drewN, World.frozen?_drewN] at hc5 hf5); have hz5 := hb5.size; (try simp at hz5); (try have hy5_0 : w.heap.size < w5.heap.size := by omega); (try have hy5_1 : w.heap.size + 1 < w5.heap.size := by omega); (try have hy5_2 : w.heap.size + 2 < w5.heap.size := by omega); (try have hy5_3 : w.heap.size + 3 < w5.heap.size := by omega); (try have hx5_0 : w.heap.size ≤ w5.heap.size := by omega); (try have hx5_1 : w.heap.size + 1 ≤ w5.heap.size := by omega); (try have hx5_2 : w.heap.size + 2 ≤ w5.heap.size := by omega))
    go_wp2_with fail
    exact bodyPost_ret (v := .bool true) (by simp [results, Try.results9, go_sem, *]) rfl ⟨rfl, by (repeat (first | with_reducible exact Below.refl _ _ | ((with_reducible refine Below.alloc1 ?_ ?_ _); (· first | omega | (simp; done) | (simp; omega))) | (with_reducible refine Below.drew ?_) | (with_reducible refine below_drewN' ?_ _) | ((with_reducible refine Below.setCell1 ?_ ?_ _); (· first | omega | (simp; done) | (simp; omega))) | ((with_reducible refine Below.after (by assumption) ?_ ?_); (· first | omega | (simp; done) | (simp; omega)))))⟩

set_option maxRecDepth 100000 in
theorem meets_F (lo hi lo' hi' : Nat) (a b a' b' : Bool) (r r' m : Rg) (v : Bool) (w : World) (hl : lo < 2 ^ 64) (hh : hi < 2 ^ 64) (hl' : lo' < 2 ^ 64) (hh' : hi' < 2 ^ 64) (Hr : Hid (canonS lo hi a b = r)) (Hr' : Hid (canonS lo' hi' a' b' = r'))
    (Hm : Hid (meetR r r' = m)) (Hm' : Hid (meetR (canonS lo hi a b) (canonS lo' hi' a' b') = m)) (Ok : Hid (okR m)) (Okr : Hid (okR r)) (Hv : Hid (m.isNone = v)) (Hv' : Hid ((meetR (canonS lo hi a b) (canonS lo' hi' a' b')).isNone = v))
    (Hw : Hid (withinB (meetR (canonS lo hi a b) (canonS lo' hi' a' b')) (canonS lo hi a b) = false)) (He : Hid (r.isNone = false)) (T1 : (rlo m == rlo r) = false) :
    Calls Try.prog 9 #[.agg #[.float .f64 lo, .float .f64 hi, .bool a, .bool b], .agg #[.float .f64 lo', .float .f64 hi', .bool a', .bool b']] w (Ret (.bool true) w) := by
  have h1 := feq_lit 4611686018427387904 (by unfold inf; omega)
  have h2 := feq_lit 4613937818241073152 (by unfold inf; omega)
  go_enter Try.func9, Try.ntmps9
  go_wp2_with (first | (go_at_call 25; (with_reducible refine (at_any _ _ _).mono ?_); rintro e w1 ⟨rfl, hb1⟩; obtain ⟨hc1, hf1⟩ := bcell hb1; (try simp only [World.heap_drewN, World.cell?_drewN, World.frozen?_drewN] at hc1 hf1); have hz1 := hb1.size; (try simp at hz1); (try have hy1_0 : w.heap.size < w1.heap.size := by omega); (try have hy1_1 : w.heap.size + 1 < w1.heap.size := by omega); (try have hy1_2 : w.heap.size + 2 < w1.heap.size := by omega); (try have hy1_3 : w.heap.size + 3 < w1.heap.size := by omega); (try have hx1_0 : w.heap.size ≤ w1.heap.size := by omega); (try have hx1_1 : w.heap.size + 1 ≤ w1.heap.size := by omega); (try have hx1_2 : w.heap.size + 2 ≤ w1.heap.size := by omega)) | (go_at_call 41; (with_reducible refine (meet_lits _).mono ?_); rintro e w2 ⟨rfl, hb2⟩; obtain ⟨hc2, hf2⟩ := bcell hb2; (try simp only [World.heap_drewN, World.cell?_drewN, World.frozen?_drewN] at hc2 hf2); have hz2 := hb2.size; (try simp at hz2); (try have hy2_0 : w.heap.size < w2.heap.size := by omega); (try have hy2_1 : w.heap.size + 1 < w2.heap.size := by omega); (try have hy2_2 : w.heap.size + 2 < w2.heap.size := by omega); (try have hy2_3 : w.heap.size + 3 < w2.heap.size := by omega); (try have hx2_0 : w.heap.size ≤ w2.heap.size := by omega); (try have hx2_1 : w.heap.size + 1 ≤ w2.heap.size := by omega); (try have hx2_2 : w.heap.size + 2 ≤ w2.heap.size := by omega)))
  clear h1 h2
  refine wp_region_notes [Note.val (.agg #[.float .f64 lo, .float .f64 hi, .bool a, .bool b]), Note.val (.agg #[.int .u64 (rlo r), .int .u64 (rhi r)]), Note.val (.agg #[.float .f64 lo', .float .f64 hi', .bool a', .bool b']), Note.val (.agg #[.int .u64 (rlo r'), .int .u64 (rhi r')]), Note.ptr [.int .u64 0, .int .u64 0], Note.ptr [.int .u64 0, .int .u64 0]] rfl (by kernel_rfl) (by kernel_rfl) ?_ ?_
  · simp only [List.length_cons, List.length_nil, Nat.reduceAdd, List.take_succ_cons, List.take_zero, StepsN, List.nil_append, List.cons_append]
    refine ⟨?_, ?_, ?_, ?_, ?_, ?_, trivial⟩
    · intro u w3 hb3 hd
      obtain ⟨hc3, hf3⟩ := bcell hb3
      have hz3 := hb3.size
      (try simp at hz3)
      (try have hy3_0 : w.heap.size < w3.heap.size := by omega)
      (try have hy3_1 : w.heap.size + 1 < w3.heap.size := by omega)
      (try have hy3_2 : w.heap.size + 2 < w3.heap.size := by omega)
      (try have hy3_3 : w.heap.size + 3 < w3.heap.size := by omega)
      (try have hx3_0 : w.heap.size ≤ w3.heap.size := by omega)
      (try have hx3_1 : w.heap.size + 1 ≤ w3.heap.size := by omega)
      (try have hx3_2 : w.heap.size + 2 ≤ w3.heap.size := by omega)
      (try (simp [Region.binds, Note.phi, cellsAre] at hd))
      revert hd
      (try simp only [putsFrom, Act.put, List.setIfInBounds_toArray, List.set_cons_zero, List.set_cons_succ, Nat.zero_add, Nat.reduceAdd])
      ((try simp only [forall_exists_index, and_imp]); intros)
      clear u
      go_wp2_with (first | (go_at_call 16; (with_reducible refine (refOfG lo hi a b r _ hl hh Hr).mono ?_); rintro e wy ⟨rfl, hby⟩) | (go_at_call 16; (with_reducible refine (refOfG lo' hi' a' b' r' _ hl' hh' Hr').mono ?_); rintro e wy ⟨rfl, hby⟩))
      exact ⟨rfl, by (repeat (first | with_reducible exact Below.refl _ _ | ((with_reducible refine Below.alloc1 ?_ ?_ _); (· first | omega | (simp; done) | (simp; omega))) | (with_reducible refine Below.drew ?_) | (with_reducible refine below_drewN' ?_ _) | ((with_reducible refine Below.setCell1 ?_ ?_ _); (· first | omega | (simp; done) | (simp; omega))) | ((with_reducible refine Below.after (by assumption) ?_ ?_); (· first | omega | (simp; done) | (simp; omega))))), rfl⟩
    · intro u w3 hb3 hd
      obtain ⟨hc3, hf3⟩ := bcell hb3
      have hz3 := hb3.size
      (try simp at hz3)
      (try have hy3_0 : w.heap.size < w3.heap.size := by omega)
      (try have hy3_1 : w.heap.size + 1 < w3.heap.size := by omega)
      (try have hy3_2 : w.heap.size + 2 < w3.heap.size := by omega)
      (try have hy3_3 : w.heap.size + 3 < w3.heap.size := by omega)
      (try have hx3_0 : w.heap.size ≤ w3.heap.size := by omega)
      (try have hx3_1 : w.heap.size + 1 ≤ w3.heap.size := by omega)
      (try have hx3_2 : w.heap.size + 2 ≤ w3.heap.size := by omega)
      (try (simp [Region.binds, Note.phi, cellsAre] at hd))
      revert hd
      (try simp only [putsFrom, Act.put, List.setIfInBounds_toArray, List.set_cons_zero, List.set_cons_succ, Nat.zero_add, Nat.reduceAdd])
      generalize u 0 = u0
      ((try simp only [forall_exists_index, and_imp]); intros)
      (try subst u0)
      clear u
      go_wp2_with (first | (go_at_call 16; (with_reducible refine (refOfG lo hi a b r _ hl hh Hr).mono ?_); rintro e wy ⟨rfl, hby⟩) | (go_at_call 16; (with_reducible refine (refOfG lo' hi' a' b' r' _ hl' hh' Hr').mono ?_); rintro e wy ⟨rfl, hby⟩))
      exact ⟨rfl, by (repeat (first | with_reducible exact Below.refl _ _ | ((with_reducible refine Below.alloc1 ?_ ?_ _); (· first | omega | (simp; done) | (simp; omega))) | (with_reducible refine Below.drew ?_) | (with_reducible refine below_drewN' ?_ _) | ((with_reducible refine Below.setCell1 ?_ ?_ _); (· first | omega | (simp; done) | (simp; omega))) | ((with_reducible refine Below.after (by assumption) ?_ ?_); (· first | omega | (simp; done) | (simp; omega))))), rfl⟩
    · intro u w3 hb3 hd
      obtain ⟨hc3, hf3⟩ := bcell hb3
      have hz3 := hb3.size
      (try simp at hz3)
      (try have hy3_0 : w.heap.size < w3.heap.size := by omega)
      (try have hy3_1 : w.heap.size + 1 < w3.heap.size := by omega)
      (try have hy3_2 : w.heap.size + 2 < w3.heap.size := by omega)
      (try have hy3_3 : w.heap.size + 3 < w3.heap.size := by omega)
      (try have hx3_0 : w.heap.size ≤ w3.heap.size := by omega)
      (try have hx3_1 : w.heap.size + 1 ≤ w3.heap.size := by omega)
      (try have hx3_2 : w.heap.size + 2 ≤ w3.heap.size := by omega)
      (try (simp [Region.binds, Note.phi, cellsAre] at hd))
      revert hd
      (try simp only [putsFrom, Act.put, List.setIfInBounds_toArray, List.set_cons_zero, List.set_cons_succ, Nat.zero_add, Nat.reduceAdd])
      generalize u 0 = u0
      generalize u 1 = u1
      ((try simp only [forall_exists_index, and_imp]); intros)
      (try subst u0)
      (try subst u1)
      clear u
      go_wp2_with (first | (go_at_call 16; (with_reducible refine (refOfG lo hi a b r _ hl hh Hr).mono ?_); rintro e wy ⟨rfl, hby⟩) | (go_at_call 16; (with_reducible refine (refOfG lo' hi' a' b' r' _ hl' hh' Hr').mono ?_); rintro e wy ⟨rfl, hby⟩))
      exact ⟨rfl, by (repeat (first | with_reducible exact Below.refl _ _ | ((with_reducible refine Below.alloc1 ?_ ?_ _); (· first | omega | (simp; done) | (simp; omega))) | (with_reducible refine Below.drew ?_) | (with_reducible refine below_drewN' ?_ _) | ((with_reducible refine Below.setCell1 ?_ ?_ _); (· first | omega | (simp; done) | (simp; omega))) | ((with_reducible refine Below.after (by assumption) ?_ ?_); (· first | omega | (simp; done) | (simp; omega))))), rfl⟩
    · intro u w3 hb3 hd
      obtain ⟨hc3, hf3⟩ := bcell hb3
      have hz3 := hb3.size
      (try simp at hz3)
      (try have hy3_0 : w.heap.size < w3.heap.size := by omega)
      (try have hy3_1 : w.heap.size + 1 < w3.heap.size := by omega)
      (try have hy3_2 : w.heap.size + 2 < w3.heap.size := by omega)
      (try have hy3_3 : w.heap.size + 3 < w3.heap.size := by omega)
      (try have hx3_0 : w.heap.size ≤ w3.heap.size := by omega)
      (try have hx3_1 : w.heap.size + 1 ≤ w3.heap.size := by omega)
      (try have hx3_2 : w.heap.size + 2 ≤ w3.heap.size := by omega)
      (try (simp [Region.binds, Note.phi, cellsAre] at hd))
      revert hd
      (try simp only [putsFrom, Act.put, List.setIfInBounds_toArray, List.set_cons_zero, List.set_cons_succ, Nat.zero_add, Nat.reduceAdd])
      generalize u 0 = u0
      generalize u 1 = u1
      generalize u 2 = u2
      ((try simp only [forall_exists_index, and_imp]); intros)
      (try subst u0)
      (try subst u1)
      (try subst u2)
      clear u
      go_wp2_with (first | (go_at_call 16; (with_reducible refine (refOfG lo hi a b r _ hl hh Hr).mono ?_); rintro e wy ⟨rfl, hby⟩) | (go_at_call 16; (with_reducible refine (refOfG lo' hi' a' b' r' _ hl' hh' Hr').mono ?_); rintro e wy ⟨rfl, hby⟩))
      exact ⟨rfl, by (repeat (first | with_reducible exact Below.refl _ _ | ((with_reducible refine Below.alloc1 ?_ ?_ _); (· first | omega | (simp; done) | (simp; omega))) | (with_reducible refine Below.drew ?_) | (with_reducible refine below_drewN' ?_ _) | ((with_reducible refine Below.setCell1 ?_ ?_ _); (· first | omega | (simp; done) | (simp; omega))) | ((with_reducible refine Below.after (by assumption) ?_ ?_); (· first | omega | (simp; done) | (simp; omega))))), rfl⟩
    · intro u w3 hb3 hd
      obtain ⟨hc3, hf3⟩ := bcell hb3
      have hz3 := hb3.size
      (try simp at hz3)
      (try have hy3_0 : w.heap.size < w3.heap.size := by omega)
      (try have hy3_1 : w.heap.size + 1 < w3.heap.size := by omega)
      (try have hy3_2 : w.heap.size + 2 < w3.heap.size := by omega)
      (try have hy3_3 : w.heap.size + 3 < w3.heap.size := by omega)
      (try have hx3_0 : w.heap.size ≤ w3.heap.size := by omega)
      (try have hx3_1 : w.heap.size + 1 ≤ w3.heap.size := by omega)
      (try have hx3_2 : w.heap.size + 2 ≤ w3.heap.size := by omega)
      (try (simp [Region.binds, Note.phi, cellsAre] at hd))
      revert hd
      (try simp only [putsFrom, Act.put, List.setIfInBounds_toArray, List.set_cons_zero, List.set_cons_succ, Nat.zero_add, Nat.reduceAdd])
      generalize u 0 = u0
      generalize u 1 = u1
      generalize u 2 = u2
      generalize u 3 = u3
      ((try simp only [forall_exists_index, and_imp]); intros)
      (try subst u0)
      (try subst u1)
      (try subst u2)
      (try subst u3)
      clear u
      go_wp2_with (first | (go_at_call 16; (with_reducible refine (refOfG lo hi a b r _ hl hh Hr).mono ?_); rintro e wy ⟨rfl, hby⟩) | (go_at_call 16; (with_reducible refine (refOfG lo' hi' a' b' r' _ hl' hh' Hr').mono ?_); rintro e wy ⟨rfl, hby⟩))
      exact ⟨rfl, by (repeat (first | with_reducible exact Below.refl _ _ | ((with_reducible refine Below.alloc1 ?_ ?_ _); (· first | omega | (simp; done) | (simp; omega))) | (with_reducible refine Below.drew ?_) | (with_reducible refine below_drewN' ?_ _) | ((with_reducible refine Below.setCell1 ?_ ?_ _); (· first | omega | (simp; done) | (simp; omega))) | ((with_reducible refine Below.after (by assumption) ?_ ?_); (· first | omega | (simp; done) | (simp; omega))))), w3.heap.size, rfl, Nat.le_refl _, by simp, by simp [cellsAre, go_sem]⟩
    · intro u w3 hb3 hd
      obtain ⟨hc3, hf3⟩ := bcell hb3
      have hz3 := hb3.size
      (try simp at hz3)
      (try have hy3_0 : w.heap.size < w3.heap.size := by omega)
      (try have hy3_1 : w.heap.size + 1 < w3.heap.size := by omega)
      (try have hy3_2 : w.heap.size + 2 < w3.heap.size := by omega)
      (try have hy3_3 : w.heap.size + 3 < w3.heap.size := by omega)
      (try have hx3_0 : w.heap.size ≤ w3.heap.size := by omega)
      (try have hx3_1 : w.heap.size + 1 ≤ w3.heap.size := by omega)
      (try have hx3_2 : w.heap.size + 2 ≤ w3.heap.size := by omega)
      (try (simp [Region.binds, Note.phi, cellsAre] at hd))
      revert hd
      (try simp only [putsFrom, Act.put, List.setIfInBounds_toArray, List.set_cons_zero, List.set_cons_succ, Nat.zero_add, Nat.reduceAdd])
      generalize u 0 = u0
      generalize u 1 = u1
      generalize u 2 = u2
      generalize u 3 = u3
      generalize u 4 = u4
      ((try simp only [forall_exists_index, and_imp]); intros)
      (try subst u0)
      (try subst u1)
      (try subst u2)
      (try subst u3)
      (try subst u4)
      clear u
      go_wp2_with (first | (go_at_call 16; (with_reducible refine (refOfG lo hi a b r _ hl hh Hr).mono ?_); rintro e wy ⟨rfl, hby⟩) | (go_at_call 16; (with_reducible refine (refOfG lo' hi' a' b' r' _ hl' hh' Hr').mono ?_); rintro e wy ⟨rfl, hby⟩))
      exact ⟨rfl, by (repeat (first | with_reducible exact Below.refl _ _ | ((with_reducible refine Below.alloc1 ?_ ?_ _); (· first | omega | (simp; done) | (simp; omega))) | (with_reducible refine Below.drew ?_) | (with_reducible refine below_drewN' ?_ _) | ((with_reducible refine Below.setCell1 ?_ ?_ _); (· first | omega | (simp; done) | (simp; omega))) | ((with_reducible refine Below.after (by assumption) ?_ ?_); (· first | omega | (simp; done) | (simp; omega))))), w3.heap.size, rfl, Nat.le_refl _, by simp, by simp [cellsAre, go_sem]⟩
  · intro u w3 hb3 hph hap
    obtain ⟨hc3, hf3⟩ := bcell hb3
    have hz3 := hb3.size
    (try simp at hz3)
    (try have hy3_0 : w.heap.size < w3.heap.size := by omega)
    (try have hy3_1 : w.heap.size + 1 < w3.heap.size := by omega)
    (try have hy3_2 : w.heap.size + 2 < w3.heap.size := by omega)
    (try have hy3_3 : w.heap.size + 3 < w3.heap.size := by omega)
    (try have hx3_0 : w.heap.size ≤ w3.heap.size := by omega)
    (try have hx3_1 : w.heap.size + 1 ≤ w3.heap.size := by omega)
    (try have hx3_2 : w.heap.size + 2 ≤ w3.heap.size := by omega)
    have hp0 := hph 0 (by simp)
    have hp1 := hph 1 (by simp)
    have hp2 := hph 2 (by simp)
    have hp3 := hph 3 (by simp)
    have hp4 := hph 4 (by simp)
    have hp5 := hph 5 (by simp)
    have ha4_5 := hap 4 5 (by simp) (by simp) (by decide) rfl rfl
    have ha5_4 := hap 5 4 (by simp) (by simp) (by decide) rfl rfl
    clear hph hap
    simp only [List.length_cons, List.length_nil, List.take_succ_cons, List.take_zero, List.drop_succ_cons, List.drop_zero, putsFrom, Act.put, List.setIfInBounds_toArray, List.set_cons_zero, List.set_cons_succ, Nat.zero_add, Nat.reduceAdd]
    generalize u 0 = u0 at *
    generalize u 1 = u1 at *
    generalize u 2 = u2 at *
    generalize u 3 = u3 at *
    generalize u 4 = u4 at *
    generalize u 5 = u5 at *
    clear u
    cases hp0
    cases hp1
    cases hp2
    cases hp3
    obtain ⟨B4, rfl, hl4, hg4, hs4⟩ := hp4
    simp only [cellsAre, and_true] at hs4
    obtain ⟨B5, rfl, hl5, hg5, hs5⟩ := hp5
    simp only [cellsAre, and_true] at hs5
    simp only [blkOf, ne_eq, Option.some.injEq] at ha4_5
    simp only [blkOf, ne_eq, Option.some.injEq] at ha5_4
    go_wp2_with (first | (go_at_call 42; (with_reducible refine (refMeetG r r' m _ Hm).mono ?_); rintro e w4 ⟨rfl, hb4⟩; obtain ⟨hc4, hf4⟩ := bcell hb4; (try simp only [World.heap_drewN, World.cell?_drewN, World.frozen?_drewN] at hc4 hf4); have hz4 := hb4.size; (try simp at hz4); (try have hy4_0 : w.heap.size < w4.heap.size := by omega); (try have hy4_1 : w.heap.size + 1 < w4.heap.size := by omega); (try have hy4_2 : w.heap.size + 2 < w4.heap.size := by omega); (try have hy4_3 : w.heap.size + 3 < w4.heap.size := by omega); (try have hx4_0 : w.heap.size ≤ w4.heap.size := by omega); (try have hx4_1 : w.heap.size + 1 ≤ w4.heap.size := by omega); (try have hx4_2 : w.heap.size + 2 ≤ w4.heap.size := by omega)))
    have hq4 : B4 < w4.heap.size := by omega
    have hq5 : B5 < w4.heap.size := by omega
    (refine wp_region_ext (by kernel_rfl) (by kernel_rfl) ?_; (repeat (go_big_quiet_step (first | (go_at_call 41; with_reducible exact Calls.ext_of (meetG lo hi lo' hi' a b a' b' m _ hl hh hl' hh' Hm')) | (go_at_call 19; with_reducible exact Calls.ext_of (refSpanG m _ Ok)) | (go_at_call 17; with_reducible exact Calls.ext_of (sameSpanG m _)) | (go_at_call 43; with_reducible exact Calls.ext_of (apart_is lo hi lo' hi' a b a' b' v _ hl hh hl' hh' Hv')) | (go_at_call 21; with_reducible exact Calls.ext_of (refEmptyG m v _ Ok Hv)) | (go_at_call 44; with_reducible exact Calls.ext_of (within_is lo hi lo' hi' a b a' b' false _ hl hh hl' hh' Hw)) | (go_at_call 21; with_reducible exact Calls.ext_of (refEmptyG r false _ Okr He))))); refine wpQuiet_nil ?_; rintro w5 ⟨x5, hx5⟩; have hb5 := x5.b; rw [← hx5] at hb5; clear hx5 x5; obtain ⟨hc5, hf5⟩ := bcell hb5; (try simp only [World.heap_drewN, World.cell?_drewN, World.frozen?_drewN] at hc5 hf5); have hz5 := hb5.size; (try simp at hz5); (try have hy5_0 : w.heap.size < w5.heap.size := by omega); (try have hy5_1 : w.heap.size + 1 < w5.heap.size := by omega); (try have hy5_2 : w.heap.size + 2 < w5.heap.size := by omega); (try have hy5_3 : w.heap.size + 3 < w5.heap.size := by omega); (try have hx5_0 : w.heap.size ≤ w5.heap.size := by omega); (try have hx5_1 : w.heap.size + 1 ≤ w5.heap.size := by omega); (try have hx5_2 : w.heap.size + 2 ≤ w5.heap.size := by omega))
    go_wp2_with fail
    exact bodyPost_ret (v := .bool true) (by simp [results, Try.results9, go_sem, *]) rfl ⟨rfl, by (repeat (first | with_reducible exact Below.refl _ _ | ((with_reducible refine Below.alloc1 ?_ ?_ _); (· first | omega | (simp; done) | (simp; omega))) | (with_reducible refine Below.drew ?_) | (with_reducible refine below_drewN' ?_ _) | ((with_reducible refine Below.setCell1 ?_ ?_ _); (· first | omega | (simp; done) | (simp; omega))) | ((with_reducible refine Below.after (by assumption) ?_ ?_); (· first | omega | (simp; done) | (simp; omega)))))⟩

set_option maxRecDepth 100000 in
theorem meets_TF (lo hi lo' hi' : Nat) (a b a' b' : Bool) (r r' m : Rg) (v : Bool) (w : World) (hl : lo < 2 ^ 64) (hh : hi < 2 ^ 64) (hl' : lo' < 2 ^ 64) (hh' : hi' < 2 ^ 64) (Hr : Hid (canonS lo hi a b = r)) (Hr' : Hid (canonS lo' hi' a' b' = r'))
    (Hm : Hid (meetR r r' = m)) (Hm' : Hid (meetR (canonS lo hi a b) (canonS lo' hi' a' b') = m)) (Ok : Hid (okR m)) (Okr : Hid (okR r)) (Hv : Hid (m.isNone = v)) (Hv' : Hid ((meetR (canonS lo hi a b) (canonS lo' hi' a' b')).isNone = v))
    (Hw : Hid (withinB (meetR (canonS lo hi a b) (canonS lo' hi' a' b')) (canonS lo hi a b) = false)) (He : Hid (r.isNone = false)) (T1 : (rlo m == rlo r) = true) (T2 : (rhi m == rhi r) = false) :
    Calls Try.prog 9 #[.agg #[.float .f64 lo, .float .f64 hi, .bool a, .bool b], .agg #[.float .f64 lo', .float .f64 hi', .bool a', .bool b']] w (Ret (.bool true) w) := by
  have h1 := feq_lit 4611686018427387904 (by unfold inf; omega)
  have h2 := feq_lit 4613937818241073152 (by unfold inf; omega)
  go_enter Try.func9, Try.ntmps9
  go_wp2_with (first | (go_at_call 25; (with_reducible refine (at_any _ _ _).mono ?_); rintro e w1 ⟨rfl, hb1⟩; obtain ⟨hc1, hf1⟩ := bcell hb1; (try simp only [World.heap_drewN, World.cell?_drewN, World.frozen?_drewN] at hc1 hf1); have hz1 := hb1.size; (try simp at hz1); (try have hy1_0 : w.heap.size < w1.heap.size := by omega); (try have hy1_1 : w.heap.size + 1 < w1.heap.size := by omega); (try have hy1_2 : w.heap.size + 2 < w1.heap.size := by omega); (try have hy1_3 : w.heap.size + 3 < w1.heap.size := by omega); (try have hx1_0 : w.heap.size ≤ w1.heap.size := by omega); (try have hx1_1 : w.heap.size + 1 ≤ w1.heap.size := by omega); (try have hx1_2 : w.heap.size + 2 ≤ w1.heap.size := by omega)) | (go_at_call 41; (with_reducible refine (meet_lits _).mono ?_); rintro e w2 ⟨rfl, hb2⟩; obtain ⟨hc2, hf2⟩ := bcell hb2; (try simp only [World.heap_drewN, World.cell?_drewN, World.frozen?_drewN] at hc2 hf2); have hz2 := hb2.size; (try simp at hz2); (try have hy2_0 : w.heap.size < w2.heap.size := by omega); (try have hy2_1 : w.heap.size + 1 < w2.heap.size := by omega); (try have hy2_2 : w.heap.size + 2 < w2.heap.size := by omega); (try have hy2_3 : w.heap.size + 3 < w2.heap.size := by omega); (try have hx2_0 : w.heap.size ≤ w2.heap.size := by omega); (try have hx2_1 : w.heap.size + 1 ≤ w2.heap.size := by omega); (try have hx2_2 : w.heap.size + 2 ≤ w2.heap.size := by omega)))
  clear h1 h2
  refine wp_region_notes [Note.val (.agg #[.float .f64 lo, .float .f64 hi, .bool a, .bool b]), Note.val (.agg #[.int .u64 (rlo r), .int .u64 (rhi r)]), Note.val (.agg #[.float .f64 lo', .float .f64 hi', .bool a', .bool b']), Note.val (.agg #[.int .u64 (rlo r'), .int .u64 (rhi r')]), Note.ptr [.int .u64 0, .int .u64 0], Note.ptr [.int .u64 0, .int .u64 0]] rfl (by kernel_rfl) (by kernel_rfl) ?_ ?_
  · simp only [List.length_cons, List.length_nil, Nat.reduceAdd, List.take_succ_cons, List.take_zero, StepsN, List.nil_append, List.cons_append]
    refine ⟨?_, ?_, ?_, ?_, ?_, ?_, trivial⟩
    · intro u w3 hb3 hd
      obtain ⟨hc3, hf3⟩ := bcell hb3
      have hz3 := hb3.size
      (try simp at hz3)
      (try have hy3_0 : w.heap.size < w3.heap.size := by omega)
      (try have hy3_1 : w.heap.size + 1 < w3.heap.size := by omega)
      (try have hy3_2 : w.heap.size + 2 < w3.heap.size := by omega)
      (try have hy3_3 : w.heap.size + 3 < w3.heap.size := by omega)
      (try have hx3_0 : w.heap.size ≤ w3.heap.size := by omega)
      (try have hx3_1 : w.heap.size + 1 ≤ w3.heap.size := by omega)
      (try have hx3_2 : w.heap.size + 2 ≤ w3.heap.size := by omega)
      (try (simp [Region.binds, Note.phi, cellsAre] at hd))
      revert hd
      (try simp only [putsFrom, Act.put, List.setIfInBounds_toArray, List.set_cons_zero, List.set_cons_succ, Nat.zero_add, Nat.reduceAdd])
      ((try simp only [forall_exists_index, and_imp]); intros)
      clear u
      go_wp2_with (first | (go_at_call 16; (with_reducible refine (refOfG lo hi a b r _ hl hh Hr).mono ?_); rintro e wy ⟨rfl, hby⟩) | (go_at_call 16; (with_reducible refine (refOfG lo' hi' a' b' r' _ hl' hh' Hr').mono ?_); rintro e wy ⟨rfl, hby⟩))
      exact ⟨rfl, by (repeat (first | with_reducible exact Below.refl _ _ | ((with_reducible refine Below.alloc1 ?_ ?_ _); (· first | omega | (simp; done) | (simp; omega))) | (with_reducible refine Below.drew ?_) | (with_reducible refine below_drewN' ?_ _) | ((with_reducible refine Below.setCell1 ?_ ?_ _); (· first | omega | (simp; done) | (simp; omega))) | ((with_reducible refine Below.after (by assumption) ?_ ?_); (· first | omega | (simp; done) | (simp; omega))))), rfl⟩
    · intro u w3 hb3 hd
      obtain ⟨hc3, hf3⟩ := bcell hb3
      have hz3 := hb3.size
      (try simp at hz3)
      (try have hy3_0 : w.heap.size < w3.heap.size := by omega)
      (try have hy3_1 : w.heap.size + 1 < w3.heap.size := by omega)
      (try have hy3_2 : w.heap.size + 2 < w3.heap.size := by omega)
      (try have hy3_3 : w.heap.size + 3 < w3.heap.size := by omega)
      (try have hx3_0 : w.heap.size ≤ w3.heap.size := by omega)
      (try have hx3_1 : w.heap.size + 1 ≤ w3.heap.size := by omega)
      (try have hx3_2 : w.heap.size + 2 ≤ w3.heap.size := by omega)
      (try (simp [Region.binds, Note.phi, cellsAre] at hd))
      revert hd
      (try simp only [putsFrom, Act.put, List.setIfInBounds_toArray, List.set_cons_zero, List.set_cons_succ, Nat.zero_add, Nat.reduceAdd])
      generalize u 0 = u0
      ((try simp only [forall_exists_index, and_imp]); intros)
      (try subst u0)
      clear u
      go_wp2_with (first | (go_at_call 16; (with_reducible refine (refOfG lo hi a b r _ hl hh Hr).mono ?_); rintro e wy ⟨rfl, hby⟩) | (go_at_call 16; (with_reducible refine (refOfG lo' hi' a' b' r' _ hl' hh' Hr').mono ?_); rintro e wy ⟨rfl, hby⟩))
      exact ⟨rfl, by (repeat (first | with_reducible exact Below.refl _ _ | ((with_reducible refine Below.alloc1 ?_ ?_ _); (· first | omega | (simp; done) | (simp; omega))) | (with_reducible refine Below.drew ?_) | (with_reducible refine below_drewN' ?_ _) | ((with_reducible refine Below.setCell1 ?_ ?_ _); (· first | omega | (simp; done) | (simp; omega))) | ((with_reducible refine Below.after (by assumption) ?_ ?_); (· first | omega | (simp; done) | (simp; omega))))), rfl⟩
    · intro u w3 hb3 hd
      obtain ⟨hc3, hf3⟩ := bcell hb3
      have hz3 := hb3.size
      (try simp at hz3)
      (try have hy3_0 : w.heap.size < w3.heap.size := by omega)
      (try have hy3_1 : w.heap.size + 1 < w3.heap.size := by omega)
      (try have hy3_2 : w.heap.size + 2 < w3.heap.size := by omega)
      (try have hy3_3 : w.heap.size + 3 < w3.heap.size := by omega)
      (try have hx3_0 : w.heap.size ≤ w3.heap.size := by omega)
      (try have hx3_1 : w.heap.size + 1 ≤ w3.heap.size := by omega)
      (try have hx3_2 : w.heap.size + 2 ≤ w3.heap.size := by omega)
      (try (simp [Region.binds, Note.phi, cellsAre] at hd))
      revert hd
      (try simp only [putsFrom, Act.put, List.setIfInBounds_toArray, List.set_cons_zero, List.set_cons_succ, Nat.zero_add, Nat.reduceAdd])
      generalize u 0 = u0
      generalize u 1 = u1
      ((try simp only [forall_exists_index, and_imp]); intros)
      (try subst u0)
      (try subst u1)
      clear u
      go_wp2_with (first | (go_at_call 16; (with_reducible refine (refOfG lo hi a b r _ hl hh Hr).mono ?_); rintro e wy ⟨rfl, hby⟩) | (go_at_call 16; (with_reducible refine (refOfG lo' hi' a' b' r' _ hl' hh' Hr').mono ?_); rintro e wy ⟨rfl, hby⟩))
      exact ⟨rfl, by (repeat (first | with_reducible exact Below.refl _ _ | ((with_reducible refine Below.alloc1 ?_ ?_ _); (· first | omega | (simp; done) | (simp; omega))) | (with_reducible refine Below.drew ?_) | (with_reducible refine below_drewN' ?_ _) | ((with_reducible refine Below.setCell1 ?_ ?_ _); (· first | omega | (simp; done) | (simp; omega))) | ((with_reducible refine Below.after (by assumption) ?_ ?_); (· first | omega | (simp; done) | (simp; omega))))), rfl⟩
    · intro u w3 hb3 hd
      obtain ⟨hc3, hf3⟩ := bcell hb3
      have hz3 := hb3.size
      (try simp at hz3)
      (try have hy3_0 : w.heap.size < w3.heap.size := by omega)
      (try have hy3_1 : w.heap.size + 1 < w3.heap.size := by omega)
      (try have hy3_2 : w.heap.size + 2 < w3.heap.size := by omega)
      (try have hy3_3 : w.heap.size + 3 < w3.heap.size := by omega)
      (try have hx3_0 : w.heap.size ≤ w3.heap.size := by omega)
      (try have hx3_1 : w.heap.size + 1 ≤ w3.heap.size := by omega)
      (try have hx3_2 : w.heap.size + 2 ≤ w3.heap.size := by omega)
      (try (simp [Region.binds, Note.phi, cellsAre] at hd))
      revert hd
      (try simp only [putsFrom, Act.put, List.setIfInBounds_toArray, List.set_cons_zero, List.set_cons_succ, Nat.zero_add, Nat.reduceAdd])
      generalize u 0 = u0
      generalize u 1 = u1
      generalize u 2 = u2
      ((try simp only [forall_exists_index, and_imp]); intros)
      (try subst u0)
      (try subst u1)
      (try subst u2)
      clear u
      go_wp2_with (first | (go_at_call 16; (with_reducible refine (refOfG lo hi a b r _ hl hh Hr).mono ?_); rintro e wy ⟨rfl, hby⟩) | (go_at_call 16; (with_reducible refine (refOfG lo' hi' a' b' r' _ hl' hh' Hr').mono ?_); rintro e wy ⟨rfl, hby⟩))
      exact ⟨rfl, by (repeat (first | with_reducible exact Below.refl _ _ | ((with_reducible refine Below.alloc1 ?_ ?_ _); (· first | omega | (simp; done) | (simp; omega))) | (with_reducible refine Below.drew ?_) | (with_reducible refine below_drewN' ?_ _) | ((with_reducible refine Below.setCell1 ?_ ?_ _); (· first | omega | (simp; done) | (simp; omega))) | ((with_reducible refine Below.after (by assumption) ?_ ?_); (· first | omega | (simp; done) | (simp; omega))))), rfl⟩
    · intro u w3 hb3 hd
      obtain ⟨hc3, hf3⟩ := bcell hb3
      have hz3 := hb3.size
      (try simp at hz3)
      (try have hy3_0 : w.heap.size < w3.heap.size := by omega)
      (try have hy3_1 : w.heap.size + 1 < w3.heap.size := by omega)
      (try have hy3_2 : w.heap.size + 2 < w3.heap.size := by omega)
      (try have hy3_3 : w.heap.size + 3 < w3.heap.size := by omega)
      (try have hx3_0 : w.heap.size ≤ w3.heap.size := by omega)
      (try have hx3_1 : w.heap.size + 1 ≤ w3.heap.size := by omega)
      (try have hx3_2 : w.heap.size + 2 ≤ w3.heap.size := by omega)
      (try (simp [Region.binds, Note.phi, cellsAre] at hd))
      revert hd
      (try simp only [putsFrom, Act.put, List.setIfInBounds_toArray, List.set_cons_zero, List.set_cons_succ, Nat.zero_add, Nat.reduceAdd])
      generalize u 0 = u0
      generalize u 1 = u1
      generalize u 2 = u2
      generalize u 3 = u3
      ((try simp only [forall_exists_index, and_imp]); intros)
      (try subst u0)
      (try subst u1)
      (try subst u2)
      (try subst u3)
      clear u
      go_wp2_with (first | (go_at_call 16; (with_reducible refine (refOfG lo hi a b r _ hl hh Hr).mono ?_); rintro e wy ⟨rfl, hby⟩) | (go_at_call 16; (with_reducible refine (refOfG lo' hi' a' b' r' _ hl' hh' Hr').mono ?_); rintro e wy ⟨rfl, hby⟩))
      exact ⟨rfl, by (repeat (first | with_reducible exact Below.refl _ _ | ((with_reducible refine Below.alloc1 ?_ ?_ _); (· first | omega | (simp; done) | (simp; omega))) | (with_reducible refine Below.drew ?_) | (with_reducible refine below_drewN' ?_ _) | ((with_reducible refine Below.setCell1 ?_ ?_ _); (· first | omega | (simp; done) | (simp; omega))) | ((with_reducible refine Below.after (by assumption) ?_ ?_); (· first | omega | (simp; done) | (simp; omega))))), w3.heap.size, rfl, Nat.le_refl _, by simp, by simp [cellsAre, go_sem]⟩
    · intro u w3 hb3 hd
      obtain ⟨hc3, hf3⟩ := bcell hb3
      have hz3 := hb3.size
      (try simp at hz3)
      (try have hy3_0 : w.heap.size < w3.heap.size := by omega)
      (try have hy3_1 : w.heap.size + 1 < w3.heap.size := by omega)
      (try have hy3_2 : w.heap.size + 2 < w3.heap.size := by omega)
      (try have hy3_3 : w.heap.size + 3 < w3.heap.size := by omega)
      (try have hx3_0 : w.heap.size ≤ w3.heap.size := by omega)
      (try have hx3_1 : w.heap.size + 1 ≤ w3.heap.size := by omega)
      (try have hx3_2 : w.heap.size + 2 ≤ w3.heap.size := by omega)
      (try (simp [Region.binds, Note.phi, cellsAre] at hd))
      revert hd
      (try simp only [putsFrom, Act.put, List.setIfInBounds_toArray, List.set_cons_zero, List.set_cons_succ, Nat.zero_add, Nat.reduceAdd])
      generalize u 0 = u0
      generalize u 1 = u1
      generalize u 2 = u2
      generalize u 3 = u3
      generalize u 4 = u4
      ((try simp only [forall_exists_index, and_imp]); intros)
      (try subst u0)
      (try subst u1)
      (try subst u2)
      (try subst u3)
      (try subst u4)
      clear u
      go_wp2_with (first | (go_at_call 16; (with_reducible refine (refOfG lo hi a b r _ hl hh Hr).mono ?_); rintro e wy ⟨rfl, hby⟩) | (go_at_call 16; (with_reducible refine (refOfG lo' hi' a' b' r' _ hl' hh' Hr').mono ?_); rintro e wy ⟨rfl, hby⟩))
      exact ⟨rfl, by (repeat (first | with_reducible exact Below.refl _ _ | ((with_reducible refine Below.alloc1 ?_ ?_ _); (· first | omega | (simp; done) | (simp; omega))) | (with_reducible refine Below.drew ?_) | (with_reducible refine below_drewN' ?_ _) | ((with_reducible refine Below.setCell1 ?_ ?_ _); (· first | omega | (simp; done) | (simp; omega))) | ((with_reducible refine Below.after (by assumption) ?_ ?_); (· first | omega | (simp; done) | (simp; omega))))), w3.heap.size, rfl, Nat.le_refl _, by simp, by simp [cellsAre, go_sem]⟩
  · intro u w3 hb3 hph hap
    obtain ⟨hc3, hf3⟩ := bcell hb3
    have hz3 := hb3.size
    (try simp at hz3)
    (try have hy3_0 : w.heap.size < w3.heap.size := by omega)
    (try have hy3_1 : w.heap.size + 1 < w3.heap.size := by omega)
    (try have hy3_2 : w.heap.size + 2 < w3.heap.size := by omega)
    (try have hy3_3 : w.heap.size + 3 < w3.heap.size := by omega)
    (try have hx3_0 : w.heap.size ≤ w3.heap.size := by omega)
    (try have hx3_1 : w.heap.size + 1 ≤ w3.heap.size := by omega)
    (try have hx3_2 : w.heap.size + 2 ≤ w3.heap.size := by omega)
    have hp0 := hph 0 (by simp)
    have hp1 := hph 1 (by simp)
    have hp2 := hph 2 (by simp)
    have hp3 := hph 3 (by simp)
    have hp4 := hph 4 (by simp)
    have hp5 := hph 5 (by simp)
    have ha4_5 := hap 4 5 (by simp) (by simp) (by decide) rfl rfl
    have ha5_4 := hap 5 4 (by simp) (by simp) (by decide) rfl rfl
    clear hph hap
    simp only [List.length_cons, List.length_nil, List.take_succ_cons, List.take_zero, List.drop_succ_cons, List.drop_zero, putsFrom, Act.put, List.setIfInBounds_toArray, List.set_cons_zero, List.set_cons_succ, Nat.zero_add, Nat.reduceAdd]
    generalize u 0 = u0 at *
    generalize u 1 = u1 at *
    generalize u 2 = u2 at *
    generalize u 3 = u3 at *
    generalize u 4 = u4 at *
    generalize u 5 = u5 at *
    clear u
    cases hp0
    cases hp1
    cases hp2
    cases hp3
    obtain ⟨B4, rfl, hl4, hg4, hs4⟩ := hp4
    simp only [cellsAre, and_true] at hs4
    obtain ⟨B5, rfl, hl5, hg5, hs5⟩ := hp5
    simp only [cellsAre, and_true] at hs5
    simp only [blkOf, ne_eq, Option.some.injEq] at ha4_5
    simp only [blkOf, ne_eq, Option.some.injEq] at ha5_4
    go_wp2_with (first | (go_at_call 42; (with_reducible refine (refMeetG r r' m _ Hm).mono ?_); rintro e w4 ⟨rfl, hb4⟩; obtain ⟨hc4, hf4⟩ := bcell hb4; (try simp only [World.heap_drewN, World.cell?_drewN, World.frozen?_drewN] at hc4 hf4); have hz4 := hb4.size; (try simp at hz4); (try have hy4_0 : w.heap.size < w4.heap.size := by omega); (try have hy4_1 : w.heap.size + 1 < w4.heap.size := by omega); (try have hy4_2 : w.heap.size + 2 < w4.heap.size := by omega); (try have hy4_3 : w.heap.size + 3 < w4.heap.size := by omega); (try have hx4_0 : w.heap.size ≤ w4.heap.size := by omega); (try have hx4_1 : w.heap.size + 1 ≤ w4.heap.size := by omega); (try have hx4_2 : w.heap.size + 2 ≤ w4.heap.size := by omega)))
    have hq4 : B4 < w4.heap.size := by omega
    have hq5 : B5 < w4.heap.size := by omega
    (refine wp_region_ext (by kernel_rfl) (by kernel_rfl) ?_; (repeat (go_big_quiet_step (first | (go_at_call 41; with_reducible exact Calls.ext_of (meetG lo hi lo' hi' a b a' b' m _ hl hh hl' hh' Hm')) | (go_at_call 19; with_reducible exact Calls.ext_of (refSpanG m _ Ok)) | (go_at_call 17; with_reducible exact Calls.ext_of (sameSpanG m _)) | (go_at_call 43; with_reducible exact Calls.ext_of (apart_is lo hi lo' hi' a b a' b' v _ hl hh hl' hh' Hv')) | (go_at_call 21; with_reducible exact Calls.ext_of (refEmptyG m v _ Ok Hv)) | (go_at_call 44; with_reducible exact Calls.ext_of (within_is lo hi lo' hi' a b a' b' false _ hl hh hl' hh' Hw)) | (go_at_call 21; with_reducible exact Calls.ext_of (refEmptyG r false _ Okr He))))); refine wpQuiet_nil ?_; rintro w5 ⟨x5, hx5⟩; have hb5 := x5.b; rw [← hx5] at hb5; clear hx5 x5; obtain ⟨hc5, hf5⟩ := bcell hb5; (try simp only [World.heap_drewN, World.cell?_drewN, World.frozen?_drewN] at hc5 hf5); have hz5 := hb5.size; (try simp at hz5); (try have hy5_0 : w.heap.size < w5.heap.size := by omega); (try have hy5_1 : w.heap.size + 1 < w5.heap.size := by omega); (try have hy5_2 : w.heap.size + 2 < w5.heap.size := by omega); (try have hy5_3 : w.heap.size + 3 < w5.heap.size := by omega); (try have hx5_0 : w.heap.size ≤ w5.heap.size := by omega); (try have hx5_1 : w.heap.size + 1 ≤ w5.heap.size := by omega); (try have hx5_2 : w.heap.size + 2 ≤ w5.heap.size := by omega))
    go_wp2_with fail
    exact bodyPost_ret (v := .bool true) (by simp [results, Try.results9, go_sem, *]) rfl ⟨rfl, by (repeat (first | with_reducible exact Below.refl _ _ | ((with_reducible refine Below.alloc1 ?_ ?_ _); (· first | omega | (simp; done) | (simp; omega))) | (with_reducible refine Below.drew ?_) | (with_reducible refine below_drewN' ?_ _) | ((with_reducible refine Below.setCell1 ?_ ?_ _); (· first | omega | (simp; done) | (simp; omega))) | ((with_reducible refine Below.after (by assumption) ?_ ?_); (· first | omega | (simp; done) | (simp; omega)))))⟩

set_option maxRecDepth 100000 in
theorem meets_TT (lo hi lo' hi' : Nat) (a b a' b' : Bool) (r r' m : Rg) (v : Bool) (w : World) (hl : lo < 2 ^ 64) (hh : hi < 2 ^ 64) (hl' : lo' < 2 ^ 64) (hh' : hi' < 2 ^ 64) (Hr : Hid (canonS lo hi a b = r)) (Hr' : Hid (canonS lo' hi' a' b' = r'))
    (Hm : Hid (meetR r r' = m)) (Hm' : Hid (meetR (canonS lo hi a b) (canonS lo' hi' a' b') = m)) (Ok : Hid (okR m)) (Okr : Hid (okR r)) (Hv : Hid (m.isNone = v)) (Hv' : Hid ((meetR (canonS lo hi a b) (canonS lo' hi' a' b')).isNone = v))
    (Hw : Hid (withinB (meetR (canonS lo hi a b) (canonS lo' hi' a' b')) (canonS lo hi a b) = true)) (He : Hid (r.isNone = false)) (T1 : (rlo m == rlo r) = true) (T2 : (rhi m == rhi r) = true) :
    Calls Try.prog 9 #[.agg #[.float .f64 lo, .float .f64 hi, .bool a, .bool b], .agg #[.float .f64 lo', .float .f64 hi', .bool a', .bool b']] w (Ret (.bool true) w) := by
  have h1 := feq_lit 4611686018427387904 (by unfold inf; omega)
  have h2 := feq_lit 4613937818241073152 (by unfold inf; omega)
  go_enter Try.func9, Try.ntmps9
  go_wp2_with (first | (go_at_call 25; (with_reducible refine (at_any _ _ _).mono ?_); rintro e w1 ⟨rfl, hb1⟩; obtain ⟨hc1, hf1⟩ := bcell hb1; (try simp only [World.heap_drewN, World.cell?_drewN, World.frozen?_drewN] at hc1 hf1); have hz1 := hb1.size; (try simp at hz1); (try have hy1_0 : w.heap.size < w1.heap.size := by omega); (try have hy1_1 : w.heap.size + 1 < w1.heap.size := by omega); (try have hy1_2 : w.heap.size + 2 < w1.heap.size := by omega); (try have hy1_3 : w.heap.size + 3 < w1.heap.size := by omega); (try have hx1_0 : w.heap.size ≤ w1.heap.size := by omega); (try have hx1_1 : w.heap.size + 1 ≤ w1.heap.size := by omega); (try have hx1_2 : w.heap.size + 2 ≤ w1.heap.size := by omega)) | (go_at_call 41; (with_reducible refine (meet_lits _).mono ?_); rintro e w2 ⟨rfl, hb2⟩; obtain ⟨hc2, hf2⟩ := bcell hb2; (try simp only [World.heap_drewN, World.cell?_drewN, World.frozen?_drewN] at hc2 hf2); have hz2 := hb2.size; (try simp at hz2); (try have hy2_0 : w.heap.size < w2.heap.size := by omega); (try have hy2_1 : w.heap.size + 1 < w2.heap.size := by omega); (try have hy2_2 : w.heap.size + 2 < w2.heap.size := by omega); (try have hy2_3 : w.heap.size + 3 < w2.heap.size := by omega); (try have hx2_0 : w.heap.size ≤ w2.heap.size := by omega); (try have hx2_1 : w.heap.size + 1 ≤ w2.heap.size := by omega); (try have hx2_2 : w.heap.size + 2 ≤ w2.heap.size := by omega)))
  clear h1 h2
  refine wp_region_notes [Note.val (.agg #[.float .f64 lo, .float .f64 hi, .bool a, .bool b]), Note.val (.agg #[.int .u64 (rlo r), .int .u64 (rhi r)]), Note.val (.agg #[.float .f64 lo', .float .f64 hi', .bool a', .bool b']), Note.val (.agg #[.int .u64 (rlo r'), .int .u64 (rhi r')]), Note.ptr [.int .u64 0, .int .u64 0], Note.ptr [.int .u64 0, .int .u64 0]] rfl (by kernel_rfl) (by kernel_rfl) ?_ ?_
  · simp only [List.length_cons, List.length_nil, Nat.reduceAdd, List.take_succ_cons, List.take_zero, StepsN, List.nil_append, List.cons_append]
    refine ⟨?_, ?_, ?_, ?_, ?_, ?_, trivial⟩
    · intro u w3 hb3 hd
      obtain ⟨hc3, hf3⟩ := bcell hb3
      have hz3 := hb3.size
      (try simp at hz3)
      (try have hy3_0 : w.heap.size < w3.heap.size := by omega)
      (try have hy3_1 : w.heap.size + 1 < w3.heap.size := by omega)
      (try have hy3_2 : w.heap.size + 2 < w3.heap.size := by omega)
      (try have hy3_3 : w.heap.size + 3 < w3.heap.size := by omega)
      (try have hx3_0 : w.heap.size ≤ w3.heap.size := by omega)
      (try have hx3_1 : w.heap.size + 1 ≤ w3.heap.size := by omega)
      (try have hx3_2 : w.heap.size + 2 ≤ w3.heap.size := by omega)
      (try (simp [Region.binds, Note.phi, cellsAre] at hd))
      revert hd
      (try simp only [putsFrom, Act.put, List.setIfInBounds_toArray, List.set_cons_zero, List.set_cons_succ, Nat.zero_add, Nat.reduceAdd])
      ((try simp only [forall_exists_index, and_imp]); intros)
      clear u
      go_wp2_with (first | (go_at_call 16; (with_reducible refine (refOfG lo hi a b r _ hl hh Hr).mono ?_); rintro e wy ⟨rfl, hby⟩) | (go_at_call 16; (with_reducible refine (refOfG lo' hi' a' b' r' _ hl' hh' Hr').mono ?_); rintro e wy ⟨rfl, hby⟩))
      exact ⟨rfl, by (repeat (first | with_reducible exact Below.refl _ _ | ((with_reducible refine Below.alloc1 ?_ ?_ _); (· first | omega | (simp; done) | (simp; omega))) | (with_reducible refine Below.drew ?_) | (with_reducible refine below_drewN' ?_ _) | ((with_reducible refine Below.setCell1 ?_ ?_ _); (· first | omega | (simp; done) | (simp; omega))) | ((with_reducible refine Below.after (by assumption) ?_ ?_); (· first | omega | (simp; done) | (simp; omega))))), rfl⟩
    · intro u w3 hb3 hd
      obtain ⟨hc3, hf3⟩ := bcell hb3
      have hz3 := hb3.size
      (try simp at hz3)
      (try have hy3_0 : w.heap.size < w3.heap.size := by omega)
      (try have hy3_1 : w.heap.size + 1 < w3.heap.size := by omega)
      (try have hy3_2 : w.heap.size + 2 < w3.heap.size := by omega)
      (try have hy3_3 : w.heap.size + 3 < w3.heap.size := by omega)
      (try have hx3_0 : w.heap.size ≤ w3.heap.size := by omega)
      (try have hx3_1 : w.heap.size + 1 ≤ w3.heap.size := by omega)
      (try have hx3_2 : w.heap.size + 2 ≤ w3.heap.size := by omega)
      (try (simp [Region.binds, Note.phi, cellsAre] at hd))
      revert hd
      (try simp only [putsFrom, Act.put, List.setIfInBounds_toArray, List.set_cons_zero, List.set_cons_succ, Nat.zero_add, Nat.reduceAdd])
      generalize u 0 = u0
      ((try simp only [forall_exists_index, and_imp]); intros)
      (try subst u0)
      clear u
      go_wp2_with (first | (go_at_call 16; (with_reducible refine (refOfG lo hi a b r _ hl hh Hr).mono ?_); rintro e wy ⟨rfl, hby⟩) | (go_at_call 16; (with_reducible refine (refOfG lo' hi' a' b' r' _ hl' hh' Hr').mono ?_); rintro e wy ⟨rfl, hby⟩))
      exact ⟨rfl, by (repeat (first | with_reducible exact Below.refl _ _ | ((with_reducible refine Below.alloc1 ?_ ?_ _); (· first | omega | (simp; done) | (simp; omega))) | (with_reducible refine Below.drew ?_) | (with_reducible refine below_drewN' ?_ _) | ((with_reducible refine Below.setCell1 ?_ ?_ _); (· first | omega | (simp; done) | (simp; omega))) | ((with_reducible refine Below.after (by assumption) ?_ ?_); (· first | omega | (simp; done) | (simp; omega))))), rfl⟩
    · intro u w3 hb3 hd
      obtain ⟨hc3, hf3⟩ := bcell hb3
      have hz3 := hb3.size
      (try simp at hz3)
      (try have hy3_0 : w.heap.size < w3.heap.size := by omega)
      (try have hy3_1 : w.heap.size + 1 < w3.heap.size := by omega)
      (try have hy3_2 : w.heap.size + 2 < w3.heap.size := by omega)
      (try have hy3_3 : w.heap.size + 3 < w3.heap.size := by omega)
      (try have hx3_0 : w.heap.size ≤ w3.heap.size := by omega)
      (try have hx3_1 : w.heap.size + 1 ≤ w3.heap.size := by omega)
      (try have hx3_2 : w.heap.size + 2 ≤ w3.heap.size := by omega)
      (try (simp [Region.binds, Note.phi, cellsAre] at hd))
      revert hd
      (try simp only [putsFrom, Act.put, List.setIfInBounds_toArray, List.set_cons_zero, List.set_cons_succ, Nat.zero_add, Nat.reduceAdd])
      generalize u 0 = u0
      generalize u 1 = u1
      ((try simp only [forall_exists_index, and_imp]); intros)
      (try subst u0)
      (try subst u1)
      clear u
      go_wp2_with (first | (go_at_call 16; (with_reducible refine (refOfG lo hi a b r _ hl hh Hr).mono ?_); rintro e wy ⟨rfl, hby⟩) | (go_at_call 16; (with_reducible refine (refOfG lo' hi' a' b' r' _ hl' hh' Hr').mono ?_); rintro e wy ⟨rfl, hby⟩))
      exact ⟨rfl, by (repeat (first | with_reducible exact Below.refl _ _ | ((with_reducible refine Below.alloc1 ?_ ?_ _); (· first | omega | (simp; done) | (simp; omega))) | (with_reducible refine Below.drew ?_) | (with_reducible refine below_drewN' ?_ _) | ((with_reducible refine Below.setCell1 ?_ ?_ _); (· first | omega | (simp; done) | (simp; omega))) | ((with_reducible refine Below.after (by assumption) ?_ ?_); (· first | omega | (simp; done) | (simp; omega))))), rfl⟩
    · intro u w3 hb3 hd
      obtain ⟨hc3, hf3⟩ := bcell hb3
      have hz3 := hb3.size
      (try simp at hz3)
      (try have hy3_0 : w.heap.size < w3.heap.size := by omega)
      (try have hy3_1 : w.heap.size + 1 < w3.heap.size := by omega)
      (try have hy3_2 : w.heap.size + 2 < w3.heap.size := by omega)
      (try have hy3_3 : w.heap.size + 3 < w3.heap.size := by omega)
      (try have hx3_0 : w.heap.size ≤ w3.heap.size := by omega)
      (try have hx3_1 : w.heap.size + 1 ≤ w3.heap.size := by omega)
      (try have hx3_2 : w.heap.size + 2 ≤ w3.heap.size := by omega)
      (try (simp [Region.binds, Note.phi, cellsAre] at hd))
      revert hd
      (try simp only [putsFrom, Act.put, List.setIfInBounds_toArray, List.set_cons_zero, List.set_cons_succ, Nat.zero_add, Nat.reduceAdd])
      generalize u 0 = u0
      generalize u 1 = u1
      generalize u 2 = u2
      ((try simp only [forall_exists_index, and_imp]); intros)
      (try subst u0)
      (try subst u1)
      (try subst u2)
      clear u
      go_wp2_with (first | (go_at_call 16; (with_reducible refine (refOfG lo hi a b r _ hl hh Hr).mono ?_); rintro e wy ⟨rfl, hby⟩) | (go_at_call 16; (with_reducible refine (refOfG lo' hi' a' b' r' _ hl' hh' Hr').mono ?_); rintro e wy ⟨rfl, hby⟩))
      exact ⟨rfl, by (repeat (first | with_reducible exact Below.refl _ _ | ((with_reducible refine Below.alloc1 ?_ ?_ _); (· first | omega | (simp; done) | (simp; omega))) | (with_reducible refine Below.drew ?_) | (with_reducible refine below_drewN' ?_ _) | ((with_reducible refine Below.setCell1 ?_ ?_ _); (· first | omega | (simp; done) | (simp; omega))) | ((with_reducible refine Below.after (by assumption) ?_ ?_); (· first | omega | (simp; done) | (simp; omega))))), rfl⟩
    · intro u w3 hb3 hd
      obtain ⟨hc3, hf3⟩ := bcell hb3
      have hz3 := hb3.size
      (try simp at hz3)
      (try have hy3_0 : w.heap.size < w3.heap.size := by omega)
      (try have hy3_1 : w.heap.size + 1 < w3.heap.size := by omega)
      (try have hy3_2 : w.heap.size + 2 < w3.heap.size := by omega)
      (try have hy3_3 : w.heap.size + 3 < w3.heap.size := by omega)
      (try have hx3_0 : w.heap.size ≤ w3.heap.size := by omega)
      (try have hx3_1 : w.heap.size + 1 ≤ w3.heap.size := by omega)
      (try have hx3_2 : w.heap.size + 2 ≤ w3.heap.size := by omega)
      (try (simp [Region.binds, Note.phi, cellsAre] at hd))
      revert hd
      (try simp only [putsFrom, Act.put, List.setIfInBounds_toArray, List.set_cons_zero, List.set_cons_succ, Nat.zero_add, Nat.reduceAdd])
      generalize u 0 = u0
      generalize u 1 = u1
      generalize u 2 = u2
      generalize u 3 = u3
      ((try simp only [forall_exists_index, and_imp]); intros)
      (try subst u0)
      (try subst u1)
      (try subst u2)
      (try subst u3)
      clear u
      go_wp2_with (first | (go_at_call 16; (with_reducible refine (refOfG lo hi a b r _ hl hh Hr).mono ?_); rintro e wy ⟨rfl, hby⟩) | (go_at_call 16; (with_reducible refine (refOfG lo' hi' a' b' r' _ hl' hh' Hr').mono ?_); rintro e wy ⟨rfl, hby⟩))
      exact ⟨rfl, by (repeat (first | with_reducible exact Below.refl _ _ | ((with_reducible refine Below.alloc1 ?_ ?_ _); (· first | omega | (simp; done) | (simp; omega))) | (with_reducible refine Below.drew ?_) | (with_reducible refine below_drewN' ?_ _) | ((with_reducible refine Below.setCell1 ?_ ?_ _); (· first | omega | (simp; done) | (simp; omega))) | ((with_reducible refine Below.after (by assumption) ?_ ?_); (· first | omega | (simp; done) | (simp; omega))))), w3.heap.size, rfl, Nat.le_refl _, by simp, by simp [cellsAre, go_sem]⟩
    · intro u w3 hb3 hd
      obtain ⟨hc3, hf3⟩ := bcell hb3
      have hz3 := hb3.size
      (try simp at hz3)
      (try have hy3_0 : w.heap.size < w3.heap.size := by omega)
      (try have hy3_1 : w.heap.size + 1 < w3.heap.size := by omega)
      (try have hy3_2 : w.heap.size + 2 < w3.heap.size := by omega)
      (try have hy3_3 : w.heap.size + 3 < w3.heap.size := by omega)
      (try have hx3_0 : w.heap.size ≤ w3.heap.size := by omega)
      (try have hx3_1 : w.heap.size + 1 ≤ w3.heap.size := by omega)
      (try have hx3_2 : w.heap.size + 2 ≤ w3.heap.size := by omega)
      (try (simp [Region.binds, Note.phi, cellsAre] at hd))
      revert hd
      (try simp only [putsFrom, Act.put, List.setIfInBounds_toArray, List.set_cons_zero, List.set_cons_succ, Nat.zero_add, Nat.reduceAdd])
      generalize u 0 = u0
      generalize u 1 = u1
      generalize u 2 = u2
      generalize u 3 = u3
      generalize u 4 = u4
      ((try simp only [forall_exists_index, and_imp]); intros)
      (try subst u0)
      (try subst u1)
      (try subst u2)
      (try subst u3)
      (try subst u4)
      clear u
      go_wp2_with (first | (go_at_call 16; (with_reducible refine (refOfG lo hi a b r _ hl hh Hr).mono ?_); rintro e wy ⟨rfl, hby⟩) | (go_at_call 16; (with_reducible refine (refOfG lo' hi' a' b' r' _ hl' hh' Hr').mono ?_); rintro e wy ⟨rfl, hby⟩))
      exact ⟨rfl, by (repeat (first | with_reducible exact Below.refl _ _ | ((with_reducible refine Below.alloc1 ?_ ?_ _); (· first | omega | (simp; done) | (simp; omega))) | (with_reducible refine Below.drew ?_) | (with_reducible refine below_drewN' ?_ _) | ((with_reducible refine Below.setCell1 ?_ ?_ _); (· first | omega | (simp; done) | (simp; omega))) | ((with_reducible refine Below.after (by assumption) ?_ ?_); (· first | omega | (simp; done) | (simp; omega))))), w3.heap.size, rfl, Nat.le_refl _, by simp, by simp [cellsAre, go_sem]⟩
  · intro u w3 hb3 hph hap
    obtain ⟨hc3, hf3⟩ := bcell hb3
    have hz3 := hb3.size
    (try simp at hz3)
    (try have hy3_0 : w.heap.size < w3.heap.size := by omega)
    (try have hy3_1 : w.heap.size + 1 < w3.heap.size := by omega)
    (try have hy3_2 : w.heap.size + 2 < w3.heap.size := by omega)
    (try have hy3_3 : w.heap.size + 3 < w3.heap.size := by omega)
    (try have hx3_0 : w.heap.size ≤ w3.heap.size := by omega)
    (try have hx3_1 : w.heap.size + 1 ≤ w3.heap.size := by omega)
    (try have hx3_2 : w.heap.size + 2 ≤ w3.heap.size := by omega)
    have hp0 := hph 0 (by simp)
    have hp1 := hph 1 (by simp)
    have hp2 := hph 2 (by simp)
    have hp3 := hph 3 (by simp)
    have hp4 := hph 4 (by simp)
    have hp5 := hph 5 (by simp)
    have ha4_5 := hap 4 5 (by simp) (by simp) (by decide) rfl rfl
    have ha5_4 := hap 5 4 (by simp) (by simp) (by decide) rfl rfl
    clear hph hap
    simp only [List.length_cons, List.length_nil, List.take_succ_cons, List.take_zero, List.drop_succ_cons, List.drop_zero, putsFrom, Act.put, List.setIfInBounds_toArray, List.set_cons_zero, List.set_cons_succ, Nat.zero_add, Nat.reduceAdd]
    generalize u 0 = u0 at *
    generalize u 1 = u1 at *
    generalize u 2 = u2 at *
    generalize u 3 = u3 at *
    generalize u 4 = u4 at *
    generalize u 5 = u5 at *
    clear u
    cases hp0
    cases hp1
    cases hp2
    cases hp3
    obtain ⟨B4, rfl, hl4, hg4, hs4⟩ := hp4
    simp only [cellsAre, and_true] at hs4
    obtain ⟨B5, rfl, hl5, hg5, hs5⟩ := hp5
    simp only [cellsAre, and_true] at hs5
    simp only [blkOf, ne_eq, Option.some.injEq] at ha4_5
    simp only [blkOf, ne_eq, Option.some.injEq] at ha5_4
    go_wp2_with (first | (go_at_call 42; (with_reducible refine (refMeetG r r' m _ Hm).mono ?_); rintro e w4 ⟨rfl, hb4⟩; obtain ⟨hc4, hf4⟩ := bcell hb4; (try simp only [World.heap_drewN, World.cell?_drewN, World.frozen?_drewN] at hc4 hf4); have hz4 := hb4.size; (try simp at hz4); (try have hy4_0 : w.heap.size < w4.heap.size := by omega); (try have hy4_1 : w.heap.size + 1 < w4.heap.size := by omega); (try have hy4_2 : w.heap.size + 2 < w4.heap.size := by omega); (try have hy4_3 : w.heap.size + 3 < w4.heap.size := by omega); (try have hx4_0 : w.heap.size ≤ w4.heap.size := by omega); (try have hx4_1 : w.heap.size + 1 ≤ w4.heap.size := by omega); (try have hx4_2 : w.heap.size + 2 ≤ w4.heap.size := by omega)))
    have hq4 : B4 < w4.heap.size := by omega
    have hq5 : B5 < w4.heap.size := by omega
    (refine wp_region_ext (by kernel_rfl) (by kernel_rfl) ?_; (repeat (go_big_quiet_step (first | (go_at_call 41; with_reducible exact Calls.ext_of (meetG lo hi lo' hi' a b a' b' m _ hl hh hl' hh' Hm')) | (go_at_call 19; with_reducible exact Calls.ext_of (refSpanG m _ Ok)) | (go_at_call 17; with_reducible exact Calls.ext_of (sameSpanG m _)) | (go_at_call 43; with_reducible exact Calls.ext_of (apart_is lo hi lo' hi' a b a' b' v _ hl hh hl' hh' Hv')) | (go_at_call 21; with_reducible exact Calls.ext_of (refEmptyG m v _ Ok Hv)) | (go_at_call 44; with_reducible exact Calls.ext_of (within_is lo hi lo' hi' a b a' b' true _ hl hh hl' hh' Hw)) | (go_at_call 21; with_reducible exact Calls.ext_of (refEmptyG r false _ Okr He))))); refine wpQuiet_nil ?_; rintro w5 ⟨x5, hx5⟩; have hb5 := x5.b; rw [← hx5] at hb5; clear hx5 x5; obtain ⟨hc5, hf5⟩ := bcell hb5; (try simp only [World.heap_drewN, World.cell?_drewN, World.frozen?_drewN] at hc5 hf5); have hz5 := hb5.size; (try simp at hz5); (try have hy5_0 : w.heap.size < w5.heap.size := by omega); (try have hy5_1 : w.heap.size + 1 < w5.heap.size := by omega); (try have hy5_2 : w.heap.size + 2 < w5.heap.size := by omega); (try have hy5_3 : w.heap.size + 3 < w5.heap.size := by omega); (try have hx5_0 : w.heap.size ≤ w5.heap.size := by omega); (try have hx5_1 : w.heap.size + 1 ≤ w5.heap.size := by omega); (try have hx5_2 : w.heap.size + 2 ≤ w5.heap.size := by omega))
    go_wp2_with fail
    exact bodyPost_ret (v := .bool true) (by simp [results, Try.results9, go_sem, *]) rfl ⟨rfl, by (repeat (first | with_reducible exact Below.refl _ _ | ((with_reducible refine Below.alloc1 ?_ ?_ _); (· first | omega | (simp; done) | (simp; omega))) | (with_reducible refine Below.drew ?_) | (with_reducible refine below_drewN' ?_ _) | ((with_reducible refine Below.setCell1 ?_ ?_ _); (· first | omega | (simp; done) | (simp; omega))) | ((with_reducible refine Below.after (by assumption) ?_ ?_); (· first | omega | (simp; done) | (simp; omega)))))⟩

theorem spanMeets_walk (lo hi : Nat) (a b : Bool) (lo' hi' : Nat) (a' b' : Bool) (w : World) (hl : lo < 2 ^ 64) (hh : hi < 2 ^ 64) (hl' : lo' < 2 ^ 64) (hh' : hi' < 2 ^ 64) :
    Calls Try.prog 9 #[.agg #[.float .f64 lo, .float .f64 hi, .bool a, .bool b], .agg #[.float .f64 lo', .float .f64 hi', .bool a', .bool b']] w (Ret (.bool true) w) := by
  obtain ⟨r, hr⟩ : ∃ r, canonS lo hi a b = r := ⟨_, rfl⟩
  obtain ⟨r', hr'⟩ : ∃ r', canonS lo' hi' a' b' = r' := ⟨_, rfl⟩
  have okr : okR r := by rw [← hr]; exact okR_canon _ _ _ _
  have okm := okR_meet r r'
  have hm' : meetR (canonS lo hi a b) (canonS lo' hi' a' b') = meetR r r' := by rw [hr, hr']
  have hv' : (meetR (canonS lo hi a b) (canonS lo' hi' a' b')).isNone = (meetR r r').isNone := by rw [hm']
  cases e : r.isNone
  · have hw : withinB (meetR (canonS lo hi a b) (canonS lo' hi' a' b')) (canonS lo hi a b) = (rlo (meetR r r') == rlo r && rhi (meetR r r') == rhi r) := by rw [hm', hr, withinB_code]
    cases T1 : (rlo (meetR r r') == rlo r)
    · exact meets_F lo hi lo' hi' a b a' b' r r' _ _ w hl hh hl' hh' (hid hr) (hid hr') (hid rfl) (hid hm') (hid okm) (hid okr) (hid rfl) (hid hv') (hid (by rw [hw, T1]; rfl)) (hid e) T1
    · cases T2 : (rhi (meetR r r') == rhi r)
      · exact meets_TF lo hi lo' hi' a b a' b' r r' _ _ w hl hh hl' hh' (hid hr) (hid hr') (hid rfl) (hid hm') (hid okm) (hid okr) (hid rfl) (hid hv') (hid (by rw [hw, T1, T2]; rfl)) (hid e) T1 T2
      · exact meets_TT lo hi lo' hi' a b a' b' r r' _ _ w hl hh hl' hh' (hid hr) (hid hr') (hid rfl) (hid hm') (hid okm) (hid okr) (hid rfl) (hid hv') (hid (by rw [hw, T1, T2]; rfl)) (hid e) T1 T2
  · have e' : r = none := by rcases r with _ | ⟨l, h⟩ <;> simp_all
    refine meets_E lo hi lo' hi' a b a' b' r r' _ _ w hl hh hl' hh' (hid hr) (hid hr') (hid rfl) (hid hm') (hid okm) (hid okr) (hid rfl) (hid hv') (hid ?_) (hid e)
    rw [hm', hr, e', meetR_none]; rfl
end Go.Proofs.Ytibimhjbhincnaa
