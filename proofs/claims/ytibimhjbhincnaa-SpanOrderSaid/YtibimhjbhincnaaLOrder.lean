/- The walk of SpanOrder. -/
import Derived.Test.YtibimhjbhincnaaR6
import Derived.Test.YtibimhjbhincnaaLOnes
import Derived.Test.YtibimhjbhincnaaNote
namespace Go.Proofs.Ytibimhjbhincnaa
set_option linter.unusedVariables false
set_option linter.unusedSimpArgs false
open Go.RowKit Fl

theorem cmp_is (lo hi lo' hi' : Nat) (a b a' b' : Bool) (v : Int) (w : World) (hl : lo < 2 ^ 64) (hh : hi < 2 ^ 64) (hl' : lo' < 2 ^ 64) (hh' : hi' < 2 ^ 64) (hv : Hid (cmpR (canonS lo hi a b) (canonS lo' hi' a' b') = v)) :
    Calls Try.prog 39 #[.agg #[.float .f64 lo, .float .f64 hi, .bool a, .bool b], .agg #[.float .f64 lo', .float .f64 hi', .bool a', .bool b']] w (Ret (.int .i64 v) w) := by
  have h := cmp_any lo hi lo' hi' a b a' b' w hl hh hl' hh'
  rw [hv.out] at h
  exact h
theorem cmp_lits (w : World) :
    Calls Try.prog 39 #[.agg #[.float .f64 4607182418800017408, .float .f64 4611686018427387904, .bool false, .bool false], .agg #[.float .f64 4607182418800017408, .float .f64 4613937818241073152, .bool false, .bool false]] w (Ret (.int .i64 (-1)) w) := by
  refine cmp_is _ _ _ _ _ _ _ _ _ _ (by omega) (by omega) (by omega) (by omega) ?_
  show _ = _
  rw [canonS_lit 4607182418800017408 4611686018427387904 (by unfold inf; omega) (by unfold inf; omega) (by omega), canonS_lit 4607182418800017408 4613937818241073152 (by unfold inf; omega) (by unfold inf; omega) (by omega), cmpR_ss]
  simp [klit]
theorem refCmp_is (l h l' h' : Key) (v : Int) (H1 : Hid (l.v ≤ h.v)) (H2 : Hid (l'.v ≤ h'.v)) (w : World) (hv : Hid (cmpR (some (l, h)) (some (l', h')) = v)) :
    Calls Try.prog 40 #[.agg #[.int .u64 (kcode l), .int .u64 (kcode h)], .agg #[.int .u64 (kcode l'), .int .u64 (kcode h')]] w (Ret (.int .i64 v) w) := by
  have h := refCmp_ss l h l' h' H1 H2 w
  rw [hv.out] at h
  exact h
theorem sameSpan_is (a0 a1 b0 b1 : Nat) (a2 a3 b2 b3 v : Bool) (w : World) (hv : Hid (sameSp a0 a1 a2 a3 b0 b1 b2 b3 = v)) :
    Calls Try.prog 17 #[.agg #[.float .f64 a0, .float .f64 a1, .bool a2, .bool a3], .agg #[.float .f64 b0, .float .f64 b1, .bool b2, .bool b3]] w (Ret (.bool v) w) := by
  have h := sameSpan_any a0 a1 b0 b1 a2 a3 b2 b3 w
  rw [hv.out] at h
  exact h
theorem refOf_isN (lo hi : Nat) (a b : Bool) (w : World) (hl : lo < 2 ^ 64) (hh : hi < 2 ^ 64) (hr : Hid (canonS lo hi a b = none)) :
    Calls Try.prog 16 #[.agg #[.float .f64 lo, .float .f64 hi, .bool a, .bool b]] w (Ret (.agg #[.int .u64 1, .int .u64 0]) w) := refOf_is lo hi a b none w hl hh hr
theorem refOf_isS (lo hi : Nat) (a b : Bool) (l h : Key) (w : World) (hl : lo < 2 ^ 64) (hh : hi < 2 ^ 64) (hr : Hid (canonS lo hi a b = some (l, h))) :
    Calls Try.prog 16 #[.agg #[.float .f64 lo, .float .f64 hi, .bool a, .bool b]] w (Ret (.agg #[.int .u64 (kcode l), .int .u64 (kcode h)]) w) := refOf_is lo hi a b (some (l, h)) w hl hh hr

set_option maxRecDepth 100000 in
theorem order_NN (lo hi lo' hi' : Nat) (a b a' b' : Bool) (w : World) (hl : lo < 2 ^ 64) (hh : hi < 2 ^ 64) (hl' : lo' < 2 ^ 64) (hh' : hi' < 2 ^ 64) (Hr : Hid (canonS lo hi a b = none)) (Hr' : Hid (canonS lo' hi' a' b' = none)) (Hs : Hid (sameSp 0 0 true true 0 0 true true = true)) (C1 : Hid (cmpR (canonS lo hi a b) (canonS lo' hi' a' b') = 0)) (C2 : Hid (cmpR (canonS lo' hi' a' b') (canonS lo hi a b) = 0)) :
    Calls Try.prog 8 #[.agg #[.float .f64 lo, .float .f64 hi, .bool a, .bool b], .agg #[.float .f64 lo', .float .f64 hi', .bool a', .bool b']] w (Ret (.bool true) w) := by
  go_enter Try.func8, Try.ntmps8
  go_wp2_with (first | (go_at_call 25; (with_reducible refine (at_any _ _ _).mono ?_); rintro e w1 ⟨rfl, hb1⟩; obtain ⟨hc1, hf1⟩ := bcell hb1; (try simp only [World.heap_drewN, World.cell?_drewN, World.frozen?_drewN] at hc1 hf1); have hz1 := hb1.size; (try simp at hz1); (try have hy1_0 : w.heap.size < w1.heap.size := by omega); (try have hy1_1 : w.heap.size + 1 < w1.heap.size := by omega); (try have hy1_2 : w.heap.size + 2 < w1.heap.size := by omega); (try have hy1_3 : w.heap.size + 3 < w1.heap.size := by omega); (try have hx1_0 : w.heap.size ≤ w1.heap.size := by omega); (try have hx1_1 : w.heap.size + 1 ≤ w1.heap.size := by omega); (try have hx1_2 : w.heap.size + 2 ≤ w1.heap.size := by omega)) | (go_at_call 39; (with_reducible refine (cmp_lits _).mono ?_); rintro e w2 ⟨rfl, hb2⟩; obtain ⟨hc2, hf2⟩ := bcell hb2; (try simp only [World.heap_drewN, World.cell?_drewN, World.frozen?_drewN] at hc2 hf2); have hz2 := hb2.size; (try simp at hz2); (try have hy2_0 : w.heap.size < w2.heap.size := by omega); (try have hy2_1 : w.heap.size + 1 < w2.heap.size := by omega); (try have hy2_2 : w.heap.size + 2 < w2.heap.size := by omega); (try have hy2_3 : w.heap.size + 3 < w2.heap.size := by omega); (try have hx2_0 : w.heap.size ≤ w2.heap.size := by omega); (try have hx2_1 : w.heap.size + 1 ≤ w2.heap.size := by omega); (try have hx2_2 : w.heap.size + 2 ≤ w2.heap.size := by omega)))
  refine wp_region_notes [Note.val (.agg #[.float .f64 lo, .float .f64 hi, .bool a, .bool b]), Note.val (.agg #[.int .u64 1, .int .u64 0]), Note.val (.agg #[.float .f64 lo', .float .f64 hi', .bool a', .bool b']), Note.val (.agg #[.int .u64 1, .int .u64 0]), Note.ptr [.int .u64 0, .int .u64 0], Note.ptr [.int .u64 0, .int .u64 0]] rfl (by kernel_rfl) (by kernel_rfl) ?_ ?_
  · simp only [List.length_cons, List.length_nil, Nat.reduceAdd, List.take_succ_cons, List.take_zero, StepsN, List.nil_append, List.cons_append]
    refine ⟨?_, ?_, ?_, ?_, ?_, ?_, trivial⟩
    · intro u w3 hb3 hd
      obtain ⟨hc3, hf3⟩ := bcell hb3
      have hz3 := hb3.size
      (try simp at hz3)
      (try have hy3_0 : w.heap.size < w3.heap.size := by omega)
      (try have hy3_1 : w.heap.size + 1 < w3.heap.size := by omega)
      (try have hy3_2 : w.heap.size + 2 < w3.heap.size := by omega)
      (try have hy3_3 : w.heap.size + 3 < w3.heap.size := by omega)
      (try have hx3_0 : w.heap.size ≤ w3.heap.size := by omega)
      (try have hx3_1 : w.heap.size + 1 ≤ w3.heap.size := by omega)
      (try have hx3_2 : w.heap.size + 2 ≤ w3.heap.size := by omega)
      (try (simp [Region.binds, Note.phi, cellsAre] at hd))
      revert hd
      (try simp only [putsFrom, Act.put, List.setIfInBounds_toArray, List.set_cons_zero, List.set_cons_succ, Nat.zero_add, Nat.reduceAdd])
      ((try simp only [forall_exists_index, and_imp]); intros)
      clear u
      go_wp2_with (first | (go_at_call 16; (with_reducible refine (refOf_isN lo hi a b _ hl hh Hr).mono ?_); rintro e wy ⟨rfl, hby⟩) | (go_at_call 16; (with_reducible refine (refOf_isN lo' hi' a' b' _ hl' hh' Hr').mono ?_); rintro e wy ⟨rfl, hby⟩))
      exact ⟨rfl, by (repeat (first | with_reducible exact Below.refl _ _ | ((with_reducible refine Below.alloc1 ?_ ?_ _); (· first | omega | (simp; done) | (simp; omega))) | (with_reducible refine Below.drew ?_) | (with_reducible refine below_drewN' ?_ _) | ((with_reducible refine Below.setCell1 ?_ ?_ _); (· first | omega | (simp; done) | (simp; omega))) | ((with_reducible refine Below.after (by assumption) ?_ ?_); (· first | omega | (simp; done) | (simp; omega))))), rfl⟩
    · intro u w3 hb3 hd
      obtain ⟨hc3, hf3⟩ := bcell hb3
      have hz3 := hb3.size
      (try simp at hz3)
      (try have hy3_0 : w.heap.size < w3.heap.size := by omega)
      (try have hy3_1 : w.heap.size + 1 < w3.heap.size := by omega)
      (try have hy3_2 : w.heap.size + 2 < w3.heap.size := by omega)
      (try have hy3_3 : w.heap.size + 3 < w3.heap.size := by omega)
      (try have hx3_0 : w.heap.size ≤ w3.heap.size := by omega)
      (try have hx3_1 : w.heap.size + 1 ≤ w3.heap.size := by omega)
      (try have hx3_2 : w.heap.size + 2 ≤ w3.heap.size := by omega)
      (try (simp [Region.binds, Note.phi, cellsAre] at hd))
      revert hd
      (try simp only [putsFrom, Act.put, List.setIfInBounds_toArray, List.set_cons_zero, List.set_cons_succ, Nat.zero_add, Nat.reduceAdd])
      generalize u 0 = u0
      ((try simp only [forall_exists_index, and_imp]); intros)
      (try subst u0)
      clear u
      go_wp2_with (first | (go_at_call 16; (with_reducible refine (refOf_isN lo hi a b _ hl hh Hr).mono ?_); rintro e wy ⟨rfl, hby⟩) | (go_at_call 16; (with_reducible refine (refOf_isN lo' hi' a' b' _ hl' hh' Hr').mono ?_); rintro e wy ⟨rfl, hby⟩))
      exact ⟨rfl, by (repeat (first | with_reducible exact Below.refl _ _ | ((with_reducible refine Below.alloc1 ?_ ?_ _); (· first | omega | (simp; done) | (simp; omega))) | (with_reducible refine Below.drew ?_) | (with_reducible refine below_drewN' ?_ _) | ((with_reducible refine Below.setCell1 ?_ ?_ _); (· first | omega | (simp; done) | (simp; omega))) | ((with_reducible refine Below.after (by assumption) ?_ ?_); (· first | omega | (simp; done) | (simp; omega))))), rfl⟩
    · intro u w3 hb3 hd
      obtain ⟨hc3, hf3⟩ := bcell hb3
      have hz3 := hb3.size
      (try simp at hz3)
      (try have hy3_0 : w.heap.size < w3.heap.size := by omega)
      (try have hy3_1 : w.heap.size + 1 < w3.heap.size := by omega)
      (try have hy3_2 : w.heap.size + 2 < w3.heap.size := by omega)
      (try have hy3_3 : w.heap.size + 3 < w3.heap.size := by omega)
      (try have hx3_0 : w.heap.size ≤ w3.heap.size := by omega)
      (try have hx3_1 : w.heap.size + 1 ≤ w3.heap.size := by omega)
      (try have hx3_2 : w.heap.size + 2 ≤ w3.heap.size := by omega)
      (try (simp [Region.binds, Note.phi, cellsAre] at hd))
      revert hd
      (try simp only [putsFrom, Act.put, List.setIfInBounds_toArray, List.set_cons_zero, List.set_cons_succ, Nat.zero_add, Nat.reduceAdd])
      generalize u 0 = u0
      generalize u 1 = u1
      ((try simp only [forall_exists_index, and_imp]); intros)
      (try subst u0)
      (try subst u1)
      clear u
      go_wp2_with (first | (go_at_call 16; (with_reducible refine (refOf_isN lo hi a b _ hl hh Hr).mono ?_); rintro e wy ⟨rfl, hby⟩) | (go_at_call 16; (with_reducible refine (refOf_isN lo' hi' a' b' _ hl' hh' Hr').mono ?_); rintro e wy ⟨rfl, hby⟩))
      exact ⟨rfl, by (repeat (first | with_reducible exact Below.refl _ _ | ((with_reducible refine Below.alloc1 ?_ ?_ _); (· first | omega | (simp; done) | (simp; omega))) | (with_reducible refine Below.drew ?_) | (with_reducible refine below_drewN' ?_ _) | ((with_reducible refine Below.setCell1 ?_ ?_ _); (· first | omega | (simp; done) | (simp; omega))) | ((with_reducible refine Below.after (by assumption) ?_ ?_); (· first | omega | (simp; done) | (simp; omega))))), rfl⟩
    · intro u w3 hb3 hd
      obtain ⟨hc3, hf3⟩ := bcell hb3
      have hz3 := hb3.size
      (try simp at hz3)
      (try have hy3_0 : w.heap.size < w3.heap.size := by omega)
      (try have hy3_1 : w.heap.size + 1 < w3.heap.size := by omega)
      (try have hy3_2 : w.heap.size + 2 < w3.heap.size := by omega)
      (try have hy3_3 : w.heap.size + 3 < w3.heap.size := by omega)
      (try have hx3_0 : w.heap.size ≤ w3.heap.size := by omega)
      (try have hx3_1 : w.heap.size + 1 ≤ w3.heap.size := by omega)
      (try have hx3_2 : w.heap.size + 2 ≤ w3.heap.size := by omega)
      (try (simp [Region.binds, Note.phi, cellsAre] at hd))
      revert hd
      (try simp only [putsFrom, Act.put, List.setIfInBounds_toArray, List.set_cons_zero, List.set_cons_succ, Nat.zero_add, Nat.reduceAdd])
      generalize u 0 = u0
      generalize u 1 = u1
      generalize u 2 = u2
      ((try simp only [forall_exists_index, and_imp]); intros)
      (try subst u0)
      (try subst u1)
      (try subst u2)
      clear u
      go_wp2_with (first | (go_at_call 16; (with_reducible refine (refOf_isN lo hi a b _ hl hh Hr).mono ?_); rintro e wy ⟨rfl, hby⟩) | (go_at_call 16; (with_reducible refine (refOf_isN lo' hi' a' b' _ hl' hh' Hr').mono ?_); rintro e wy ⟨rfl, hby⟩))
      exact ⟨rfl, by (repeat (first | with_reducible exact Below.refl _ _ | ((with_reducible refine Below.alloc1 ?_ ?_ _); (· first | omega | (simp; done) | (simp; omega))) | (with_reducible refine Below.drew ?_) | (with_reducible refine below_drewN' ?_ _) | ((with_reducible refine Below.setCell1 ?_ ?_ _); (· first | omega | (simp; done) | (simp; omega))) | ((with_reducible refine Below.after (by assumption) ?_ ?_); (· first | omega | (simp; done) | (simp; omega))))), rfl⟩
    · intro u w3 hb3 hd
      obtain ⟨hc3, hf3⟩ := bcell hb3
      have hz3 := hb3.size
      (try simp at hz3)
      (try have hy3_0 : w.heap.size < w3.heap.size := by omega)
      (try have hy3_1 : w.heap.size + 1 < w3.heap.size := by omega)
      (try have hy3_2 : w.heap.size + 2 < w3.heap.size := by omega)
      (try have hy3_3 : w.heap.size + 3 < w3.heap.size := by omega)
      (try have hx3_0 : w.heap.size ≤ w3.heap.size := by omega)
      (try have hx3_1 : w.heap.size + 1 ≤ w3.heap.size := by omega)
      (try have hx3_2 : w.heap.size + 2 ≤ w3.heap.size := by omega)
      (try (simp [Region.binds, Note.phi, cellsAre] at hd))
      revert hd
      (try simp only [putsFrom, Act.put, List.setIfInBounds_toArray, List.set_cons_zero, List.set_cons_succ, Nat.zero_add, Nat.reduceAdd])
      generalize u 0 = u0
      generalize u 1 = u1
      generalize u 2 = u2
      generalize u 3 = u3
      ((try simp only [forall_exists_index, and_imp]); intros)
      (try subst u0)
      (try subst u1)
      (try subst u2)
      (try subst u3)
      clear u
      go_wp2_with (first | (go_at_call 16; (with_reducible refine (refOf_isN lo hi a b _ hl hh Hr).mono ?_); rintro e wy ⟨rfl, hby⟩) | (go_at_call 16; (with_reducible refine (refOf_isN lo' hi' a' b' _ hl' hh' Hr').mono ?_); rintro e wy ⟨rfl, hby⟩))
      exact ⟨rfl, by (repeat (first | with_reducible exact Below.refl _ _ | ((with_reducible refine Below.alloc1 ?_ ?_ _); (· first | omega | (simp; done) | (simp; omega))) | (with_reducible refine Below.drew ?_) | (with_reducible refine below_drewN' ?_ _) | ((with_reducible refine Below.setCell1 ?_ ?_ _); (· first | omega | (simp; done) | (simp; omega))) | ((with_reducible refine Below.after (by assumption) ?_ ?_); (· first | omega | (simp; done) | (simp; omega))))), w3.heap.size, rfl, Nat.le_refl _, by simp, by simp [cellsAre, go_sem]⟩
    · intro u w3 hb3 hd
      obtain ⟨hc3, hf3⟩ := bcell hb3
      have hz3 := hb3.size
      (try simp at hz3)
      (try have hy3_0 : w.heap.size < w3.heap.size := by omega)
      (try have hy3_1 : w.heap.size + 1 < w3.heap.size := by omega)
      (try have hy3_2 : w.heap.size + 2 < w3.heap.size := by omega)
      (try have hy3_3 : w.heap.size + 3 < w3.heap.size := by omega)
      (try have hx3_0 : w.heap.size ≤ w3.heap.size := by omega)
      (try have hx3_1 : w.heap.size + 1 ≤ w3.heap.size := by omega)
      (try have hx3_2 : w.heap.size + 2 ≤ w3.heap.size := by omega)
      (try (simp [Region.binds, Note.phi, cellsAre] at hd))
      revert hd
      (try simp only [putsFrom, Act.put, List.setIfInBounds_toArray, List.set_cons_zero, List.set_cons_succ, Nat.zero_add, Nat.reduceAdd])
      generalize u 0 = u0
      generalize u 1 = u1
      generalize u 2 = u2
      generalize u 3 = u3
      generalize u 4 = u4
      ((try simp only [forall_exists_index, and_imp]); intros)
      (try subst u0)
      (try subst u1)
      (try subst u2)
      (try subst u3)
      (try subst u4)
      clear u
      go_wp2_with (first | (go_at_call 16; (with_reducible refine (refOf_isN lo hi a b _ hl hh Hr).mono ?_); rintro e wy ⟨rfl, hby⟩) | (go_at_call 16; (with_reducible refine (refOf_isN lo' hi' a' b' _ hl' hh' Hr').mono ?_); rintro e wy ⟨rfl, hby⟩))
      exact ⟨rfl, by (repeat (first | with_reducible exact Below.refl _ _ | ((with_reducible refine Below.alloc1 ?_ ?_ _); (· first | omega | (simp; done) | (simp; omega))) | (with_reducible refine Below.drew ?_) | (with_reducible refine below_drewN' ?_ _) | ((with_reducible refine Below.setCell1 ?_ ?_ _); (· first | omega | (simp; done) | (simp; omega))) | ((with_reducible refine Below.after (by assumption) ?_ ?_); (· first | omega | (simp; done) | (simp; omega))))), w3.heap.size, rfl, Nat.le_refl _, by simp, by simp [cellsAre, go_sem]⟩
  · intro u w3 hb3 hph hap
    obtain ⟨hc3, hf3⟩ := bcell hb3
    have hz3 := hb3.size
    (try simp at hz3)
    (try have hy3_0 : w.heap.size < w3.heap.size := by omega)
    (try have hy3_1 : w.heap.size + 1 < w3.heap.size := by omega)
    (try have hy3_2 : w.heap.size + 2 < w3.heap.size := by omega)
    (try have hy3_3 : w.heap.size + 3 < w3.heap.size := by omega)
    (try have hx3_0 : w.heap.size ≤ w3.heap.size := by omega)
    (try have hx3_1 : w.heap.size + 1 ≤ w3.heap.size := by omega)
    (try have hx3_2 : w.heap.size + 2 ≤ w3.heap.size := by omega)
    have hp0 := hph 0 (by simp)
    have hp1 := hph 1 (by simp)
    have hp2 := hph 2 (by simp)
    have hp3 := hph 3 (by simp)
    have hp4 := hph 4 (by simp)
    have hp5 := hph 5 (by simp)
    have ha4_5 := hap 4 5 (by simp) (by simp) (by decide) rfl rfl
    have ha5_4 := hap 5 4 (by simp) (by simp) (by decide) rfl rfl
    clear hph hap
    simp only [List.length_cons, List.length_nil, List.take_succ_cons, List.take_zero, List.drop_succ_cons, List.drop_zero, putsFrom, Act.put, List.setIfInBounds_toArray, List.set_cons_zero, List.set_cons_succ, Nat.zero_add, Nat.reduceAdd]
    generalize u 0 = u0 at *
    generalize u 1 = u1 at *
    generalize u 2 = u2 at *
    generalize u 3 = u3 at *
    generalize u 4 = u4 at *
    generalize u 5 = u5 at *
    clear u
    cases hp0
    cases hp1
    cases hp2
    cases hp3
    obtain ⟨B4, rfl, hl4, hg4, hs4⟩ := hp4
    simp only [cellsAre, and_true] at hs4
    obtain ⟨B5, rfl, hl5, hg5, hs5⟩ := hp5
    simp only [cellsAre, and_true] at hs5
    simp only [blkOf, ne_eq, Option.some.injEq] at ha4_5
    simp only [blkOf, ne_eq, Option.some.injEq] at ha5_4
    go_wp2_with (first | (go_at_call 39; (with_reducible refine (cmp_is lo hi lo' hi' a b a' b' 0 _ hl hh hl' hh' C1).mono ?_); rintro e w4 ⟨rfl, hb4⟩; obtain ⟨hc4, hf4⟩ := bcell hb4; (try simp only [World.heap_drewN, World.cell?_drewN, World.frozen?_drewN] at hc4 hf4); have hz4 := hb4.size; (try simp at hz4); (try have hy4_0 : w.heap.size < w4.heap.size := by omega); (try have hy4_1 : w.heap.size + 1 < w4.heap.size := by omega); (try have hy4_2 : w.heap.size + 2 < w4.heap.size := by omega); (try have hy4_3 : w.heap.size + 3 < w4.heap.size := by omega); (try have hx4_0 : w.heap.size ≤ w4.heap.size := by omega); (try have hx4_1 : w.heap.size + 1 ≤ w4.heap.size := by omega); (try have hx4_2 : w.heap.size + 2 ≤ w4.heap.size := by omega)))
    have hq4 : B4 < w4.heap.size := by omega
    have hq5 : B5 < w4.heap.size := by omega
    (refine wp_region_ext (by kernel_rfl) (by kernel_rfl) ?_; (repeat (go_big_quiet_step (first | (go_at_call 40; with_reducible exact Calls.ext_of (refCmp_nn _)) | (go_at_call 39; with_reducible exact Calls.ext_of (cmp_is lo' hi' lo hi a' b' a b 0 _ hl' hh' hl hh C2)) | (go_at_call 18; with_reducible exact Calls.ext_of (canon_isN lo hi a b _ hl hh Hr)) | (go_at_call 18; with_reducible exact Calls.ext_of (canon_isN lo' hi' a' b' _ hl' hh' Hr')) | (go_at_call 17; with_reducible exact Calls.ext_of (sameSpan_is 0 0 0 0 true true true true true _ Hs))))); refine wpQuiet_nil ?_; rintro w5 ⟨x5, hx5⟩; have hb5 := x5.b; rw [← hx5] at hb5; clear hx5 x5; obtain ⟨hc5, hf5⟩ := bcell hb5; (try simp only [World.heap_drewN, World.cell?_drewN, World.frozen?_drewN] at hc5 hf5); have hz5 := hb5.size; (try simp at hz5); (try have hy5_0 : w.heap.size < w5.heap.size := by omega); (try have hy5_1 : w.heap.size + 1 < w5.heap.size := by omega); (try have hy5_2 : w.heap.size + 2 < w5.heap.size := by omega); (try have hy5_3 : w.heap.size + 3 < w5.heap.size := by omega); (try have hx5_0 : w.heap.size ≤ w5.heap.size := by omega); (try have hx5_1 : w.heap.size + 1 ≤ w5.heap.size := by omega); (try have hx5_2 : w.heap.size + 2 ≤ w5.heap.size := by omega))
    go_wp2_with fail
    exact bodyPost_ret (v := .bool true) (by simp [results, Try.results8, go_sem, *]) rfl ⟨rfl, by (repeat (first | with_reducible exact Below.refl _ _ | ((with_reducible refine Below.alloc1 ?_ ?_ _); (· first | omega | (simp; done) | (simp; omega))) | (with_reducible refine Below.drew ?_) | (with_reducible refine below_drewN' ?_ _) | ((with_reducible refine Below.setCell1 ?_ ?_ _); (· first | omega | (simp; done) | (simp; omega))) | ((with_reducible refine Below.after (by assumption) ?_ ?_); (· first | omega | (simp; done) | (simp; omega)))))⟩

set_option maxRecDepth 100000 in
theorem order_NS (lo hi lo' hi' : Nat) (a b a' b' : Bool) (w : World) (hl : lo < 2 ^ 64) (hh : hi < 2 ^ 64) (hl' : lo' < 2 ^ 64) (hh' : hi' < 2 ^ 64) (Hr : Hid (canonS lo hi a b = none)) (l' h' : Key) (H2 : Hid (l'.v ≤ h'.v)) (Hr' : Hid (canonS lo' hi' a' b' = some (l', h'))) (Hs : Hid (sameSp 0 0 true true l'.bits h'.bits false false = false)) (C1 : Hid (cmpR (canonS lo hi a b) (canonS lo' hi' a' b') = (-1))) (C2 : Hid (cmpR (canonS lo' hi' a' b') (canonS lo hi a b) = 1)) :
    Calls Try.prog 8 #[.agg #[.float .f64 lo, .float .f64 hi, .bool a, .bool b], .agg #[.float .f64 lo', .float .f64 hi', .bool a', .bool b']] w (Ret (.bool true) w) := by
  go_enter Try.func8, Try.ntmps8
  go_wp2_with (first | (go_at_call 25; (with_reducible refine (at_any _ _ _).mono ?_); rintro e w1 ⟨rfl, hb1⟩; obtain ⟨hc1, hf1⟩ := bcell hb1; (try simp only [World.heap_drewN, World.cell?_drewN, World.frozen?_drewN] at hc1 hf1); have hz1 := hb1.size; (try simp at hz1); (try have hy1_0 : w.heap.size < w1.heap.size := by omega); (try have hy1_1 : w.heap.size + 1 < w1.heap.size := by omega); (try have hy1_2 : w.heap.size + 2 < w1.heap.size := by omega); (try have hy1_3 : w.heap.size + 3 < w1.heap.size := by omega); (try have hx1_0 : w.heap.size ≤ w1.heap.size := by omega); (try have hx1_1 : w.heap.size + 1 ≤ w1.heap.size := by omega); (try have hx1_2 : w.heap.size + 2 ≤ w1.heap.size := by omega)) | (go_at_call 39; (with_reducible refine (cmp_lits _).mono ?_); rintro e w2 ⟨rfl, hb2⟩; obtain ⟨hc2, hf2⟩ := bcell hb2; (try simp only [World.heap_drewN, World.cell?_drewN, World.frozen?_drewN] at hc2 hf2); have hz2 := hb2.size; (try simp at hz2); (try have hy2_0 : w.heap.size < w2.heap.size := by omega); (try have hy2_1 : w.heap.size + 1 < w2.heap.size := by omega); (try have hy2_2 : w.heap.size + 2 < w2.heap.size := by omega); (try have hy2_3 : w.heap.size + 3 < w2.heap.size := by omega); (try have hx2_0 : w.heap.size ≤ w2.heap.size := by omega); (try have hx2_1 : w.heap.size + 1 ≤ w2.heap.size := by omega); (try have hx2_2 : w.heap.size + 2 ≤ w2.heap.size := by omega)))
  refine wp_region_notes [Note.val (.agg #[.float .f64 lo, .float .f64 hi, .bool a, .bool b]), Note.val (.agg #[.int .u64 1, .int .u64 0]), Note.val (.agg #[.float .f64 lo', .float .f64 hi', .bool a', .bool b']), Note.val (.agg #[.int .u64 (kcode l'), .int .u64 (kcode h')]), Note.ptr [.int .u64 0, .int .u64 0], Note.ptr [.int .u64 0, .int .u64 0]] rfl (by kernel_rfl) (by kernel_rfl) ?_ ?_
  · simp only [List.length_cons, List.length_nil, Nat.reduceAdd, List.take_succ_cons, List.take_zero, StepsN, List.nil_append, List.cons_append]
    refine ⟨?_, ?_, ?_, ?_, ?_, ?_, trivial⟩
    · intro u w3 hb3 hd
      obtain ⟨hc3, hf3⟩ := bcell hb3
      have hz3 := hb3.size
      (try simp at hz3)
      (try have hy3_0 : w.heap.size < w3.heap.size := by omega)
      (try have hy3_1 : w.heap.size + 1 < w3.heap.size := by omega)
      (try have hy3_2 : w.heap.size + 2 < w3.heap.size := by omega)
      (try have hy3_3 : w.heap.size + 3 < w3.heap.size := by omega)
      (try have hx3_0 : w.heap.size ≤ w3.heap.size := by omega)
      (try have hx3_1 : w.heap.size + 1 ≤ w3.heap.size := by omega)
      (try have hx3_2 : w.heap.size + 2 ≤ w3.heap.size := by omega)
      (try (simp [Region.binds, Note.phi, cellsAre] at hd))
      revert hd
      (try simp only [putsFrom, Act.put, List.setIfInBounds_toArray, List.set_cons_zero, List.set_cons_succ, Nat.zero_add, Nat.reduceAdd])
      ((try simp only [forall_exists_index, and_imp]); intros)
      clear u
      go_wp2_with (first | (go_at_call 16; (with_reducible refine (refOf_isN lo hi a b _ hl hh Hr).mono ?_); rintro e wy ⟨rfl, hby⟩) | (go_at_call 16; (with_reducible refine (refOf_isS lo' hi' a' b' l' h' _ hl' hh' Hr').mono ?_); rintro e wy ⟨rfl, hby⟩))
      exact ⟨rfl, by (repeat (first | with_reducible exact Below.refl _ _ | ((with_reducible refine Below.alloc1 ?_ ?_ _); (· first | omega | (simp; done) | (simp; omega))) | (with_reducible refine Below.drew ?_) | (with_reducible refine below_drewN' ?_ _) | ((with_reducible refine Below.setCell1 ?_ ?_ _); (· first | omega | (simp; done) | (simp; omega))) | ((with_reducible refine Below.after (by assumption) ?_ ?_); (· first | omega | (simp; done) | (simp; omega))))), rfl⟩
    · intro u w3 hb3 hd
      obtain ⟨hc3, hf3⟩ := bcell hb3
      have hz3 := hb3.size
      (try simp at hz3)
      (try have hy3_0 : w.heap.size < w3.heap.size := by omega)
      (try have hy3_1 : w.heap.size + 1 < w3.heap.size := by omega)
      (try have hy3_2 : w.heap.size + 2 < w3.heap.size := by omega)
      (try have hy3_3 : w.heap.size + 3 < w3.heap.size := by omega)
      (try have hx3_0 : w.heap.size ≤ w3.heap.size := by omega)
      (try have hx3_1 : w.heap.size + 1 ≤ w3.heap.size := by omega)
      (try have hx3_2 : w.heap.size + 2 ≤ w3.heap.size := by omega)
      (try (simp [Region.binds, Note.phi, cellsAre] at hd))
      revert hd
      (try simp only [putsFrom, Act.put, List.setIfInBounds_toArray, List.set_cons_zero, List.set_cons_succ, Nat.zero_add, Nat.reduceAdd])
      generalize u 0 = u0
      ((try simp only [forall_exists_index, and_imp]); intros)
      (try subst u0)
      clear u
      go_wp2_with (first | (go_at_call 16; (with_reducible refine (refOf_isN lo hi a b _ hl hh Hr).mono ?_); rintro e wy ⟨rfl, hby⟩) | (go_at_call 16; (with_reducible refine (refOf_isS lo' hi' a' b' l' h' _ hl' hh' Hr').mono ?_); rintro e wy ⟨rfl, hby⟩))
      exact ⟨rfl, by (repeat (first | with_reducible exact Below.refl _ _ | ((with_reducible refine Below.alloc1 ?_ ?_ _); (· first | omega | (simp; done) | (simp; omega))) | (with_reducible refine Below.drew ?_) | (with_reducible refine below_drewN' ?_ _) | ((with_reducible refine Below.setCell1 ?_ ?_ _); (· first | omega | (simp; done) | (simp; omega))) | ((with_reducible refine Below.after (by assumption) ?_ ?_); (· first | omega | (simp; done) | (simp; omega))))), rfl⟩
    · intro u w3 hb3 hd
      obtain ⟨hc3, hf3⟩ := bcell hb3
      have hz3 := hb3.size
      (try simp at hz3)
      (try have hy3_0 : w.heap.size < w3.heap.size := by omega)
      (try have hy3_1 : w.heap.size + 1 < w3.heap.size := by omega)
      (try have hy3_2 : w.heap.size + 2 < w3.heap.size := by omega)
      (try have hy3_3 : w.heap.size + 3 < w3.heap.size := by omega)
      (try have hx3_0 : w.heap.size ≤ w3.heap.size := by omega)
      (try have hx3_1 : w.heap.size + 1 ≤ w3.heap.size := by omega)
      (try have hx3_2 : w.heap.size + 2 ≤ w3.heap.size := by omega)
      (try (simp [Region.binds, Note.phi, cellsAre] at hd))
      revert hd
      (try simp only [putsFrom, Act.put, List.setIfInBounds_toArray, List.set_cons_zero, List.set_cons_succ, Nat.zero_add, Nat.reduceAdd])
      generalize u 0 = u0
      generalize u 1 = u1
      ((try simp only [forall_exists_index, and_imp]); intros)
      (try subst u0)
      (try subst u1)
      clear u
      go_wp2_with (first | (go_at_call 16; (with_reducible refine (refOf_isN lo hi a b _ hl hh Hr).mono ?_); rintro e wy ⟨rfl, hby⟩) | (go_at_call 16; (with_reducible refine (refOf_isS lo' hi' a' b' l' h' _ hl' hh' Hr').mono ?_); rintro e wy ⟨rfl, hby⟩))
      exact ⟨rfl, by (repeat (first | with_reducible exact Below.refl _ _ | ((with_reducible refine Below.alloc1 ?_ ?_ _); (· first | omega | (simp; done) | (simp; omega))) | (with_reducible refine Below.drew ?_) | (with_reducible refine below_drewN' ?_ _) | ((with_reducible refine Below.setCell1 ?_ ?_ _); (· first | omega | (simp; done) | (simp; omega))) | ((with_reducible refine Below.after (by assumption) ?_ ?_); (· first | omega | (simp; done) | (simp; omega))))), rfl⟩
    · intro u w3 hb3 hd
      obtain ⟨hc3, hf3⟩ := bcell hb3
      have hz3 := hb3.size
      (try simp at hz3)
      (try have hy3_0 : w.heap.size < w3.heap.size := by omega)
      (try have hy3_1 : w.heap.size + 1 < w3.heap.size := by omega)
      (try have hy3_2 : w.heap.size + 2 < w3.heap.size := by omega)
      (try have hy3_3 : w.heap.size + 3 < w3.heap.size := by omega)
      (try have hx3_0 : w.heap.size ≤ w3.heap.size := by omega)
      (try have hx3_1 : w.heap.size + 1 ≤ w3.heap.size := by omega)
      (try have hx3_2 : w.heap.size + 2 ≤ w3.heap.size := by omega)
      (try (simp [Region.binds, Note.phi, cellsAre] at hd))
      revert hd
      (try simp only [putsFrom, Act.put, List.setIfInBounds_toArray, List.set_cons_zero, List.set_cons_succ, Nat.zero_add, Nat.reduceAdd])
      generalize u 0 = u0
      generalize u 1 = u1
      generalize u 2 = u2
      ((try simp only [forall_exists_index, and_imp]); intros)
      (try subst u0)
      (try subst u1)
      (try subst u2)
      clear u
      go_wp2_with (first | (go_at_call 16; (with_reducible refine (refOf_isN lo hi a b _ hl hh Hr).mono ?_); rintro e wy ⟨rfl, hby⟩) | (go_at_call 16; (with_reducible refine (refOf_isS lo' hi' a' b' l' h' _ hl' hh' Hr').mono ?_); rintro e wy ⟨rfl, hby⟩))
      exact ⟨rfl, by (repeat (first | with_reducible exact Below.refl _ _ | ((with_reducible refine Below.alloc1 ?_ ?_ _); (· first | omega | (simp; done) | (simp; omega))) | (with_reducible refine Below.drew ?_) | (with_reducible refine below_drewN' ?_ _) | ((with_reducible refine Below.setCell1 ?_ ?_ _); (· first | omega | (simp; done) | (simp; omega))) | ((with_reducible refine Below.after (by assumption) ?_ ?_); (· first | omega | (simp; done) | (simp; omega))))), rfl⟩
    · intro u w3 hb3 hd
      obtain ⟨hc3, hf3⟩ := bcell hb3
      have hz3 := hb3.size
      (try simp at hz3)
      (try have hy3_0 : w.heap.size < w3.heap.size := by omega)
      (try have hy3_1 : w.heap.size + 1 < w3.heap.size := by omega)
      (try have hy3_2 : w.heap.size + 2 < w3.heap.size := by omega)
      (try have hy3_3 : w.heap.size + 3 < w3.heap.size := by omega)
      (try have hx3_0 : w.heap.size ≤ w3.heap.size := by omega)
      (try have hx3_1 : w.heap.size + 1 ≤ w3.heap.size := by omega)
      (try have hx3_2 : w.heap.size + 2 ≤ w3.heap.size := by omega)
      (try (simp [Region.binds, Note.phi, cellsAre] at hd))
      revert hd
      (try simp only [putsFrom, Act.put, List.setIfInBounds_toArray, List.set_cons_zero, List.set_cons_succ, Nat.zero_add, Nat.reduceAdd])
      generalize u 0 = u0
      generalize u 1 = u1
      generalize u 2 = u2
      generalize u 3 = u3
      ((try simp only [forall_exists_index, and_imp]); intros)
      (try subst u0)
      (try subst u1)
      (try subst u2)
      (try subst u3)
      clear u
      go_wp2_with (first | (go_at_call 16; (with_reducible refine (refOf_isN lo hi a b _ hl hh Hr).mono ?_); rintro e wy ⟨rfl, hby⟩) | (go_at_call 16; (with_reducible refine (refOf_isS lo' hi' a' b' l' h' _ hl' hh' Hr').mono ?_); rintro e wy ⟨rfl, hby⟩))
      exact ⟨rfl, by (repeat (first | with_reducible exact Below.refl _ _ | ((with_reducible refine Below.alloc1 ?_ ?_ _); (· first | omega | (simp; done) | (simp; omega))) | (with_reducible refine Below.drew ?_) | (with_reducible refine below_drewN' ?_ _) | ((with_reducible refine Below.setCell1 ?_ ?_ _); (· first | omega | (simp; done) | (simp; omega))) | ((with_reducible refine Below.after (by assumption) ?_ ?_); (· first | omega | (simp; done) | (simp; omega))))), w3.heap.size, rfl, Nat.le_refl _, by simp, by simp [cellsAre, go_sem]⟩
    · intro u w3 hb3 hd
      obtain ⟨hc3, hf3⟩ := bcell hb3
      have hz3 := hb3.size
      (try simp at hz3)
      (try have hy3_0 : w.heap.size < w3.heap.size := by omega)
      (try have hy3_1 : w.heap.size + 1 < w3.heap.size := by omega)
      (try have hy3_2 : w.heap.size + 2 < w3.heap.size := by omega)
      (try have hy3_3 : w.heap.size + 3 < w3.heap.size := by omega)
      (try have hx3_0 : w.heap.size ≤ w3.heap.size := by omega)
      (try have hx3_1 : w.heap.size + 1 ≤ w3.heap.size := by omega)
      (try have hx3_2 : w.heap.size + 2 ≤ w3.heap.size := by omega)
      (try (simp [Region.binds, Note.phi, cellsAre] at hd))
      revert hd
      (try simp only [putsFrom, Act.put, List.setIfInBounds_toArray, List.set_cons_zero, List.set_cons_succ, Nat.zero_add, Nat.reduceAdd])
      generalize u 0 = u0
      generalize u 1 = u1
      generalize u 2 = u2
      generalize u 3 = u3
      generalize u 4 = u4
      ((try simp only [forall_exists_index, and_imp]); intros)
      (try subst u0)
      (try subst u1)
      (try subst u2)
      (try subst u3)
      (try subst u4)
      clear u
      go_wp2_with (first | (go_at_call 16; (with_reducible refine (refOf_isN lo hi a b _ hl hh Hr).mono ?_); rintro e wy ⟨rfl, hby⟩) | (go_at_call 16; (with_reducible refine (refOf_isS lo' hi' a' b' l' h' _ hl' hh' Hr').mono ?_); rintro e wy ⟨rfl, hby⟩))
      exact ⟨rfl, by (repeat (first | with_reducible exact Below.refl _ _ | ((with_reducible refine Below.alloc1 ?_ ?_ _); (· first | omega | (simp; done) | (simp; omega))) | (with_reducible refine Below.drew ?_) | (with_reducible refine below_drewN' ?_ _) | ((with_reducible refine Below.setCell1 ?_ ?_ _); (· first | omega | (simp; done) | (simp; omega))) | ((with_reducible refine Below.after (by assumption) ?_ ?_); (· first | omega | (simp; done) | (simp; omega))))), w3.heap.size, rfl, Nat.le_refl _, by simp, by simp [cellsAre, go_sem]⟩
  · intro u w3 hb3 hph hap
    obtain ⟨hc3, hf3⟩ := bcell hb3
    have hz3 := hb3.size
    (try simp at hz3)
    (try have hy3_0 : w.heap.size < w3.heap.size := by omega)
    (try have hy3_1 : w.heap.size + 1 < w3.heap.size := by omega)
    (try have hy3_2 : w.heap.size + 2 < w3.heap.size := by omega)
    (try have hy3_3 : w.heap.size + 3 < w3.heap.size := by omega)
    (try have hx3_0 : w.heap.size ≤ w3.heap.size := by omega)
    (try have hx3_1 : w.heap.size + 1 ≤ w3.heap.size := by omega)
    (try have hx3_2 : w.heap.size + 2 ≤ w3.heap.size := by omega)
    have hp0 := hph 0 (by simp)
    have hp1 := hph 1 (by simp)
    have hp2 := hph 2 (by simp)
    have hp3 := hph 3 (by simp)
    have hp4 := hph 4 (by simp)
    have hp5 := hph 5 (by simp)
    have ha4_5 := hap 4 5 (by simp) (by simp) (by decide) rfl rfl
    have ha5_4 := hap 5 4 (by simp) (by simp) (by decide) rfl rfl
    clear hph hap
    simp only [List.length_cons, List.length_nil, List.take_succ_cons, List.take_zero, List.drop_succ_cons, List.drop_zero, putsFrom, Act.put, List.setIfInBounds_toArray, List.set_cons_zero, List.set_cons_succ, Nat.zero_add, Nat.reduceAdd]
    generalize u 0 = u0 at *
    generalize u 1 = u1 at *
    generalize u 2 = u2 at *
    generalize u 3 = u3 at *
    generalize u 4 = u4 at *
    generalize u 5 = u5 at *
    clear u
    cases hp0
    cases hp1
    cases hp2
    cases hp3
    obtain ⟨B4, rfl, hl4, hg4, hs4⟩ := hp4
    simp only [cellsAre, and_true] at hs4
    obtain ⟨B5, rfl, hl5, hg5, hs5⟩ := hp5
    simp only [cellsAre, and_true] at hs5
    simp only [blkOf, ne_eq, Option.some.injEq] at ha4_5
    simp only [blkOf, ne_eq, Option.some.injEq] at ha5_4
    go_wp2_with (first | (go_at_call 39; (with_reducible refine (cmp_is lo hi lo' hi' a b a' b' (-1) _ hl hh hl' hh' C1).mono ?_); rintro e w4 ⟨rfl, hb4⟩; obtain ⟨hc4, hf4⟩ := bcell hb4; (try simp only [World.heap_drewN, World.cell?_drewN, World.frozen?_drewN] at hc4 hf4); have hz4 := hb4.size; (try simp at hz4); (try have hy4_0 : w.heap.size < w4.heap.size := by omega); (try have hy4_1 : w.heap.size + 1 < w4.heap.size := by omega); (try have hy4_2 : w.heap.size + 2 < w4.heap.size := by omega); (try have hy4_3 : w.heap.size + 3 < w4.heap.size := by omega); (try have hx4_0 : w.heap.size ≤ w4.heap.size := by omega); (try have hx4_1 : w.heap.size + 1 ≤ w4.heap.size := by omega); (try have hx4_2 : w.heap.size + 2 ≤ w4.heap.size := by omega)))
    have hq4 : B4 < w4.heap.size := by omega
    have hq5 : B5 < w4.heap.size := by omega
    (refine wp_region_ext (by kernel_rfl) (by kernel_rfl) ?_; (repeat (go_big_quiet_step (first | (go_at_call 40; with_reducible exact Calls.ext_of (refCmp_ns l' h' H2 _)) | (go_at_call 39; with_reducible exact Calls.ext_of (cmp_is lo' hi' lo hi a' b' a b 1 _ hl' hh' hl hh C2)) | (go_at_call 18; with_reducible exact Calls.ext_of (canon_isN lo hi a b _ hl hh Hr)) | (go_at_call 18; with_reducible exact Calls.ext_of (canon_isS lo' hi' a' b' l' h' _ hl' hh' Hr')) | (go_at_call 17; with_reducible exact Calls.ext_of (sameSpan_is 0 0 l'.bits h'.bits true true false false false _ Hs))))); refine wpQuiet_nil ?_; rintro w5 ⟨x5, hx5⟩; have hb5 := x5.b; rw [← hx5] at hb5; clear hx5 x5; obtain ⟨hc5, hf5⟩ := bcell hb5; (try simp only [World.heap_drewN, World.cell?_drewN, World.frozen?_drewN] at hc5 hf5); have hz5 := hb5.size; (try simp at hz5); (try have hy5_0 : w.heap.size < w5.heap.size := by omega); (try have hy5_1 : w.heap.size + 1 < w5.heap.size := by omega); (try have hy5_2 : w.heap.size + 2 < w5.heap.size := by omega); (try have hy5_3 : w.heap.size + 3 < w5.heap.size := by omega); (try have hx5_0 : w.heap.size ≤ w5.heap.size := by omega); (try have hx5_1 : w.heap.size + 1 ≤ w5.heap.size := by omega); (try have hx5_2 : w.heap.size + 2 ≤ w5.heap.size := by omega))
    go_wp2_with fail
    exact bodyPost_ret (v := .bool true) (by simp [results, Try.results8, go_sem, *]) rfl ⟨rfl, by (repeat (first | with_reducible exact Below.refl _ _ | ((with_reducible refine Below.alloc1 ?_ ?_ _); (· first | omega | (simp; done) | (simp; omega))) | (with_reducible refine Below.drew ?_) | (with_reducible refine below_drewN' ?_ _) | ((with_reducible refine Below.setCell1 ?_ ?_ _); (· first | omega | (simp; done) | (simp; omega))) | ((with_reducible refine Below.after (by assumption) ?_ ?_); (· first | omega | (simp; done) | (simp; omega)))))⟩

set_option maxRecDepth 100000 in
theorem order_SN (lo hi lo' hi' : Nat) (a b a' b' : Bool) (w : World) (hl : lo < 2 ^ 64) (hh : hi < 2 ^ 64) (hl' : lo' < 2 ^ 64) (hh' : hi' < 2 ^ 64) (l h : Key) (H1 : Hid (l.v ≤ h.v)) (Hr : Hid (canonS lo hi a b = some (l, h))) (Hr' : Hid (canonS lo' hi' a' b' = none)) (Hs : Hid (sameSp l.bits h.bits false false 0 0 true true = false)) (C1 : Hid (cmpR (canonS lo hi a b) (canonS lo' hi' a' b') = 1)) (C2 : Hid (cmpR (canonS lo' hi' a' b') (canonS lo hi a b) = (-1))) :
    Calls Try.prog 8 #[.agg #[.float .f64 lo, .float .f64 hi, .bool a, .bool b], .agg #[.float .f64 lo', .float .f64 hi', .bool a', .bool b']] w (Ret (.bool true) w) := by
  go_enter Try.func8, Try.ntmps8
  go_wp2_with (first | (go_at_call 25; (with_reducible refine (at_any _ _ _).mono ?_); rintro e w1 ⟨rfl, hb1⟩; obtain ⟨hc1, hf1⟩ := bcell hb1; (try simp only [World.heap_drewN, World.cell?_drewN, World.frozen?_drewN] at hc1 hf1); have hz1 := hb1.size; (try simp at hz1); (try have hy1_0 : w.heap.size < w1.heap.size := by omega); (try have hy1_1 : w.heap.size + 1 < w1.heap.size := by omega); (try have hy1_2 : w.heap.size + 2 < w1.heap.size := by omega); (try have hy1_3 : w.heap.size + 3 < w1.heap.size := by omega); (try have hx1_0 : w.heap.size ≤ w1.heap.size := by omega); (try have hx1_1 : w.heap.size + 1 ≤ w1.heap.size := by omega); (try have hx1_2 : w.heap.size + 2 ≤ w1.heap.size := by omega)) | (go_at_call 39; (with_reducible refine (cmp_lits _).mono ?_); rintro e w2 ⟨rfl, hb2⟩; obtain ⟨hc2, hf2⟩ := bcell hb2; (try simp only [World.heap_drewN, World.cell?_drewN, World.frozen?_drewN] at hc2 hf2); have hz2 := hb2.size; (try simp at hz2); (try have hy2_0 : w.heap.size < w2.heap.size := by omega); (try have hy2_1 : w.heap.size + 1 < w2.heap.size := by omega); (try have hy2_2 : w.heap.size + 2 < w2.heap.size := by omega); (try have hy2_3 : w.heap.size + 3 < w2.heap.size := by omega); (try have hx2_0 : w.heap.size ≤ w2.heap.size := by omega); (try have hx2_1 : w.heap.size + 1 ≤ w2.heap.size := by omega); (try have hx2_2 : w.heap.size + 2 ≤ w2.heap.size := by omega)))
  refine wp_region_notes [Note.val (.agg #[.float .f64 lo, .float .f64 hi, .bool a, .bool b]), Note.val (.agg #[.int .u64 (kcode l), .int .u64 (kcode h)]), Note.val (.agg #[.float .f64 lo', .float .f64 hi', .bool a', .bool b']), Note.val (.agg #[.int .u64 1, .int .u64 0]), Note.ptr [.int .u64 0, .int .u64 0], Note.ptr [.int .u64 0, .int .u64 0]] rfl (by kernel_rfl) (by kernel_rfl) ?_ ?_
  · simp only [List.length_cons, List.length_nil, Nat.reduceAdd, List.take_succ_cons, List.take_zero, StepsN, List.nil_append, List.cons_append]
    refine ⟨?_, ?_, ?_, ?_, ?_, ?_, trivial⟩
    · intro u w3 hb3 hd
      obtain ⟨hc3, hf3⟩ := bcell hb3
      have hz3 := hb3.size
      (try simp at hz3)
      (try have hy3_0 : w.heap.size < w3.heap.size := by omega)
      (try have hy3_1 : w.heap.size + 1 < w3.heap.size := by omega)
      (try have hy3_2 : w.heap.size + 2 < w3.heap.size := by omega)
      (try have hy3_3 : w.heap.size + 3 < w3.heap.size := by omega)
      (try have hx3_0 : w.heap.size ≤ w3.heap.size := by omega)
      (try have hx3_1 : w.heap.size + 1 ≤ w3.heap.size := by omega)
      (try have hx3_2 : w.heap.size + 2 ≤ w3.heap.size := by omega)
      (try (simp [Region.binds, Note.phi, cellsAre] at hd))
      revert hd
      (try simp only [putsFrom, Act.put, List.setIfInBounds_toArray, List.set_cons_zero, List.set_cons_succ, Nat.zero_add, Nat.reduceAdd])
      ((try simp only [forall_exists_index, and_imp]); intros)
      clear u
      go_wp2_with (first | (go_at_call 16; (with_reducible refine (refOf_isS lo hi a b l h _ hl hh Hr).mono ?_); rintro e wy ⟨rfl, hby⟩) | (go_at_call 16; (with_reducible refine (refOf_isN lo' hi' a' b' _ hl' hh' Hr').mono ?_); rintro e wy ⟨rfl, hby⟩))
      exact ⟨rfl, by (repeat (first | with_reducible exact Below.refl _ _ | ((with_reducible refine Below.alloc1 ?_ ?_ _); (· first | omega | (simp; done) | (simp; omega))) | (with_reducible refine Below.drew ?_) | (with_reducible refine below_drewN' ?_ _) | ((with_reducible refine Below.setCell1 ?_ ?_ _); (· first | omega | (simp; done) | (simp; omega))) | ((with_reducible refine Below.after (by assumption) ?_ ?_); (· first | omega | (simp; done) | (simp; omega))))), rfl⟩
    · intro u w3 hb3 hd
      obtain ⟨hc3, hf3⟩ := bcell hb3
      have hz3 := hb3.size
      (try simp at hz3)
      (try have hy3_0 : w.heap.size < w3.heap.size := by omega)
      (try have hy3_1 : w.heap.size + 1 < w3.heap.size := by omega)
      (try have hy3_2 : w.heap.size + 2 < w3.heap.size := by omega)
      (try have hy3_3 : w.heap.size + 3 < w3.heap.size := by omega)
      (try have hx3_0 : w.heap.size ≤ w3.heap.size := by omega)
      (try have hx3_1 : w.heap.size + 1 ≤ w3.heap.size := by omega)
      (try have hx3_2 : w.heap.size + 2 ≤ w3.heap.size := by omega)
      (try (simp [Region.binds, Note.phi, cellsAre] at hd))
      revert hd
      (try simp only [putsFrom, Act.put, List.setIfInBounds_toArray, List.set_cons_zero, List.set_cons_succ, Nat.zero_add, Nat.reduceAdd])
      generalize u 0 = u0
      ((try simp only [forall_exists_index, and_imp]); intros)
      (try subst u0)
      clear u
      go_wp2_with (first | (go_at_call 16; (with_reducible refine (refOf_isS lo hi a b l h _ hl hh Hr).mono ?_); rintro e wy ⟨rfl, hby⟩) | (go_at_call 16; (with_reducible refine (refOf_isN lo' hi' a' b' _ hl' hh' Hr').mono ?_); rintro e wy ⟨rfl, hby⟩))
      exact ⟨rfl, by (repeat (first | with_reducible exact Below.refl _ _ | ((with_reducible refine Below.alloc1 ?_ ?_ _); (· first | omega | (simp; done) | (simp; omega))) | (with_reducible refine Below.drew ?_) | (with_reducible refine below_drewN' ?_ _) | ((with_reducible refine Below.setCell1 ?_ ?_ _); (· first | omega | (simp; done) | (simp; omega))) | ((with_reducible refine Below.after (by assumption) ?_ ?_); (· first | omega | (simp; done) | (simp; omega))))), rfl⟩
    · intro u w3 hb3 hd
      obtain ⟨hc3, hf3⟩ := bcell hb3
      have hz3 := hb3.size
      (try simp at hz3)
      (try have hy3_0 : w.heap.size < w3.heap.size := by omega)
      (try have hy3_1 : w.heap.size + 1 < w3.heap.size := by omega)
      (try have hy3_2 : w.heap.size + 2 < w3.heap.size := by omega)
      (try have hy3_3 : w.heap.size + 3 < w3.heap.size := by omega)
      (try have hx3_0 : w.heap.size ≤ w3.heap.size := by omega)
      (try have hx3_1 : w.heap.size + 1 ≤ w3.heap.size := by omega)
      (try have hx3_2 : w.heap.size + 2 ≤ w3.heap.size := by omega)
      (try (simp [Region.binds, Note.phi, cellsAre] at hd))
      revert hd
      (try simp only [putsFrom, Act.put, List.setIfInBounds_toArray, List.set_cons_zero, List.set_cons_succ, Nat.zero_add, Nat.reduceAdd])
      generalize u 0 = u0
      generalize u 1 = u1
      ((try simp only [forall_exists_index, and_imp]); intros)
      (try subst u0)
      (try subst u1)
      clear u
      go_wp2_with (first | (go_at_call 16; (with_reducible refine (refOf_isS lo hi a b l h _ hl hh Hr).mono ?_); rintro e wy ⟨rfl, hby⟩) | (go_at_call 16; (with_reducible refine (refOf_isN lo' hi' a' b' _ hl' hh' Hr').mono ?_); rintro e wy ⟨rfl, hby⟩))
      exact ⟨rfl, by (repeat (first | with_reducible exact Below.refl _ _ | ((with_reducible refine Below.alloc1 ?_ ?_ _); (· first | omega | (simp; done) | (simp; omega))) | (with_reducible refine Below.drew ?_) | (with_reducible refine below_drewN' ?_ _) | ((with_reducible refine Below.setCell1 ?_ ?_ _); (· first | omega | (simp; done) | (simp; omega))) | ((with_reducible refine Below.after (by assumption) ?_ ?_); (· first | omega | (simp; done) | (simp; omega))))), rfl⟩
    · intro u w3 hb3 hd
      obtain ⟨hc3, hf3⟩ := bcell hb3
      have hz3 := hb3.size
      (try simp at hz3)
      (try have hy3_0 : w.heap.size < w3.heap.size := by omega)
      (try have hy3_1 : w.heap.size + 1 < w3.heap.size := by omega)
      (try have hy3_2 : w.heap.size + 2 < w3.heap.size := by omega)
      (try have hy3_3 : w.heap.size + 3 < w3.heap.size := by omega)
      (try have hx3_0 : w.heap.size ≤ w3.heap.size := by omega)
      (try have hx3_1 : w.heap.size + 1 ≤ w3.heap.size := by omega)
      (try have hx3_2 : w.heap.size + 2 ≤ w3.heap.size := by omega)
      (try (simp [Region.binds, Note.phi, cellsAre] at hd))
      revert hd
      (try simp only [putsFrom, Act.put, List.setIfInBounds_toArray, List.set_cons_zero, List.set_cons_succ, Nat.zero_add, Nat.reduceAdd])
      generalize u 0 = u0
      generalize u 1 = u1
      generalize u 2 = u2
      ((try simp only [forall_exists_index, and_imp]); intros)
      (try subst u0)
      (try subst u1)
      (try subst u2)
      clear u
      go_wp2_with (first | (go_at_call 16; (with_reducible refine (refOf_isS lo hi a b l h _ hl hh Hr).mono ?_); rintro e wy ⟨rfl, hby⟩) | (go_at_call 16; (with_reducible refine (refOf_isN lo' hi' a' b' _ hl' hh' Hr').mono ?_); rintro e wy ⟨rfl, hby⟩))
      exact ⟨rfl, by (repeat (first | with_reducible exact Below.refl _ _ | ((with_reducible refine Below.alloc1 ?_ ?_ _); (· first | omega | (simp; done) | (simp; omega))) | (with_reducible refine Below.drew ?_) | (with_reducible refine below_drewN' ?_ _) | ((with_reducible refine Below.setCell1 ?_ ?_ _); (· first | omega | (simp; done) | (simp; omega))) | ((with_reducible refine Below.after (by assumption) ?_ ?_); (· first | omega | (simp; done) | (simp; omega))))), rfl⟩
    · intro u w3 hb3 hd
      obtain ⟨hc3, hf3⟩ := bcell hb3
      have hz3 := hb3.size
      (try simp at hz3)
      (try have hy3_0 : w.heap.size < w3.heap.size := by omega)
      (try have hy3_1 : w.heap.size + 1 < w3.heap.size := by omega)
      (try have hy3_2 : w.heap.size + 2 < w3.heap.size := by omega)
      (try have hy3_3 : w.heap.size + 3 < w3.heap.size := by omega)
      (try have hx3_0 : w.heap.size ≤ w3.heap.size := by omega)
      (try have hx3_1 : w.heap.size + 1 ≤ w3.heap.size := by omega)
      (try have hx3_2 : w.heap.size + 2 ≤ w3.heap.size := by omega)
      (try (simp [Region.binds, Note.phi, cellsAre] at hd))
      revert hd
      (try simp only [putsFrom, Act.put, List.setIfInBounds_toArray, List.set_cons_zero, List.set_cons_succ, Nat.zero_add, Nat.reduceAdd])
      generalize u 0 = u0
      generalize u 1 = u1
      generalize u 2 = u2
      generalize u 3 = u3
      ((try simp only [forall_exists_index, and_imp]); intros)
      (try subst u0)
      (try subst u1)
      (try subst u2)
      (try subst u3)
      clear u
      go_wp2_with (first | (go_at_call 16; (with_reducible refine (refOf_isS lo hi a b l h _ hl hh Hr).mono ?_); rintro e wy ⟨rfl, hby⟩) | (go_at_call 16; (with_reducible refine (refOf_isN lo' hi' a' b' _ hl' hh' Hr').mono ?_); rintro e wy ⟨rfl, hby⟩))
      exact ⟨rfl, by (repeat (first | with_reducible exact Below.refl _ _ | ((with_reducible refine Below.alloc1 ?_ ?_ _); (· first | omega | (simp; done) | (simp; omega))) | (with_reducible refine Below.drew ?_) | (with_reducible refine below_drewN' ?_ _) | ((with_reducible refine Below.setCell1 ?_ ?_ _); (· first | omega | (simp; done) | (simp; omega))) | ((with_reducible refine Below.after (by assumption) ?_ ?_); (· first | omega | (simp; done) | (simp; omega))))), w3.heap.size, rfl, Nat.le_refl _, by simp, by simp [cellsAre, go_sem]⟩
    · intro u w3 hb3 hd
      obtain ⟨hc3, hf3⟩ := bcell hb3
      have hz3 := hb3.size
      (try simp at hz3)
      (try have hy3_0 : w.heap.size < w3.heap.size := by omega)
      (try have hy3_1 : w.heap.size + 1 < w3.heap.size := by omega)
      (try have hy3_2 : w.heap.size + 2 < w3.heap.size := by omega)
      (try have hy3_3 : w.heap.size + 3 < w3.heap.size := by omega)
      (try have hx3_0 : w.heap.size ≤ w3.heap.size := by omega)
      (try have hx3_1 : w.heap.size + 1 ≤ w3.heap.size := by omega)
      (try have hx3_2 : w.heap.size + 2 ≤ w3.heap.size := by omega)
      (try (simp [Region.binds, Note.phi, cellsAre] at hd))
      revert hd
      (try simp only [putsFrom, Act.put, List.setIfInBounds_toArray, List.set_cons_zero, List.set_cons_succ, Nat.zero_add, Nat.reduceAdd])
      generalize u 0 = u0
      generalize u 1 = u1
      generalize u 2 = u2
      generalize u 3 = u3
      generalize u 4 = u4
      ((try simp only [forall_exists_index, and_imp]); intros)
      (try subst u0)
      (try subst u1)
      (try subst u2)
      (try subst u3)
      (try subst u4)
      clear u
      go_wp2_with (first | (go_at_call 16; (with_reducible refine (refOf_isS lo hi a b l h _ hl hh Hr).mono ?_); rintro e wy ⟨rfl, hby⟩) | (go_at_call 16; (with_reducible refine (refOf_isN lo' hi' a' b' _ hl' hh' Hr').mono ?_); rintro e wy ⟨rfl, hby⟩))
      exact ⟨rfl, by (repeat (first | with_reducible exact Below.refl _ _ | ((with_reducible refine Below.alloc1 ?_ ?_ _); (· first | omega | (simp; done) | (simp; omega))) | (with_reducible refine Below.drew ?_) | (with_reducible refine below_drewN' ?_ _) | ((with_reducible refine Below.setCell1 ?_ ?_ _); (· first | omega | (simp; done) | (simp; omega))) | ((with_reducible refine Below.after (by assumption) ?_ ?_); (· first | omega | (simp; done) | (simp; omega))))), w3.heap.size, rfl, Nat.le_refl _, by simp, by simp [cellsAre, go_sem]⟩
  · intro u w3 hb3 hph hap
    obtain ⟨hc3, hf3⟩ := bcell hb3
    have hz3 := hb3.size
    (try simp at hz3)
    (try have hy3_0 : w.heap.size < w3.heap.size := by omega)
    (try have hy3_1 : w.heap.size + 1 < w3.heap.size := by omega)
    (try have hy3_2 : w.heap.size + 2 < w3.heap.size := by omega)
    (try have hy3_3 : w.heap.size + 3 < w3.heap.size := by omega)
    (try have hx3_0 : w.heap.size ≤ w3.heap.size := by omega)
    (try have hx3_1 : w.heap.size + 1 ≤ w3.heap.size := by omega)
    (try have hx3_2 : w.heap.size + 2 ≤ w3.heap.size := by omega)
    have hp0 := hph 0 (by simp)
    have hp1 := hph 1 (by simp)
    have hp2 := hph 2 (by simp)
    have hp3 := hph 3 (by simp)
    have hp4 := hph 4 (by simp)
    have hp5 := hph 5 (by simp)
    have ha4_5 := hap 4 5 (by simp) (by simp) (by decide) rfl rfl
    have ha5_4 := hap 5 4 (by simp) (by simp) (by decide) rfl rfl
    clear hph hap
    simp only [List.length_cons, List.length_nil, List.take_succ_cons, List.take_zero, List.drop_succ_cons, List.drop_zero, putsFrom, Act.put, List.setIfInBounds_toArray, List.set_cons_zero, List.set_cons_succ, Nat.zero_add, Nat.reduceAdd]
    generalize u 0 = u0 at *
    generalize u 1 = u1 at *
    generalize u 2 = u2 at *
    generalize u 3 = u3 at *
    generalize u 4 = u4 at *
    generalize u 5 = u5 at *
    clear u
    cases hp0
    cases hp1
    cases hp2
    cases hp3
    obtain ⟨B4, rfl, hl4, hg4, hs4⟩ := hp4
    simp only [cellsAre, and_true] at hs4
    obtain ⟨B5, rfl, hl5, hg5, hs5⟩ := hp5
    simp only [cellsAre, and_true] at hs5
    simp only [blkOf, ne_eq, Option.some.injEq] at ha4_5
    simp only [blkOf, ne_eq, Option.some.injEq] at ha5_4
    go_wp2_with (first | (go_at_call 39; (with_reducible refine (cmp_is lo hi lo' hi' a b a' b' 1 _ hl hh hl' hh' C1).mono ?_); rintro e w4 ⟨rfl, hb4⟩; obtain ⟨hc4, hf4⟩ := bcell hb4; (try simp only [World.heap_drewN, World.cell?_drewN, World.frozen?_drewN] at hc4 hf4); have hz4 := hb4.size; (try simp at hz4); (try have hy4_0 : w.heap.size < w4.heap.size := by omega); (try have hy4_1 : w.heap.size + 1 < w4.heap.size := by omega); (try have hy4_2 : w.heap.size + 2 < w4.heap.size := by omega); (try have hy4_3 : w.heap.size + 3 < w4.heap.size := by omega); (try have hx4_0 : w.heap.size ≤ w4.heap.size := by omega); (try have hx4_1 : w.heap.size + 1 ≤ w4.heap.size := by omega); (try have hx4_2 : w.heap.size + 2 ≤ w4.heap.size := by omega)))
    have hq4 : B4 < w4.heap.size := by omega
    have hq5 : B5 < w4.heap.size := by omega
    (refine wp_region_ext (by kernel_rfl) (by kernel_rfl) ?_; (repeat (go_big_quiet_step (first | (go_at_call 40; with_reducible exact Calls.ext_of (refCmp_sn l h H1 _)) | (go_at_call 39; with_reducible exact Calls.ext_of (cmp_is lo' hi' lo hi a' b' a b (-1) _ hl' hh' hl hh C2)) | (go_at_call 18; with_reducible exact Calls.ext_of (canon_isS lo hi a b l h _ hl hh Hr)) | (go_at_call 18; with_reducible exact Calls.ext_of (canon_isN lo' hi' a' b' _ hl' hh' Hr')) | (go_at_call 17; with_reducible exact Calls.ext_of (sameSpan_is l.bits h.bits 0 0 false false true true false _ Hs))))); refine wpQuiet_nil ?_; rintro w5 ⟨x5, hx5⟩; have hb5 := x5.b; rw [← hx5] at hb5; clear hx5 x5; obtain ⟨hc5, hf5⟩ := bcell hb5; (try simp only [World.heap_drewN, World.cell?_drewN, World.frozen?_drewN] at hc5 hf5); have hz5 := hb5.size; (try simp at hz5); (try have hy5_0 : w.heap.size < w5.heap.size := by omega); (try have hy5_1 : w.heap.size + 1 < w5.heap.size := by omega); (try have hy5_2 : w.heap.size + 2 < w5.heap.size := by omega); (try have hy5_3 : w.heap.size + 3 < w5.heap.size := by omega); (try have hx5_0 : w.heap.size ≤ w5.heap.size := by omega); (try have hx5_1 : w.heap.size + 1 ≤ w5.heap.size := by omega); (try have hx5_2 : w.heap.size + 2 ≤ w5.heap.size := by omega))
    go_wp2_with fail
    exact bodyPost_ret (v := .bool true) (by simp [results, Try.results8, go_sem, *]) rfl ⟨rfl, by (repeat (first | with_reducible exact Below.refl _ _ | ((with_reducible refine Below.alloc1 ?_ ?_ _); (· first | omega | (simp; done) | (simp; omega))) | (with_reducible refine Below.drew ?_) | (with_reducible refine below_drewN' ?_ _) | ((with_reducible refine Below.setCell1 ?_ ?_ _); (· first | omega | (simp; done) | (simp; omega))) | ((with_reducible refine Below.after (by assumption) ?_ ?_); (· first | omega | (simp; done) | (simp; omega)))))⟩

set_option maxRecDepth 100000 in
theorem order_SSl (lo hi lo' hi' : Nat) (a b a' b' : Bool) (w : World) (hl : lo < 2 ^ 64) (hh : hi < 2 ^ 64) (hl' : lo' < 2 ^ 64) (hh' : hi' < 2 ^ 64) (l h : Key) (H1 : Hid (l.v ≤ h.v)) (Hr : Hid (canonS lo hi a b = some (l, h))) (l' h' : Key) (H2 : Hid (l'.v ≤ h'.v)) (Hr' : Hid (canonS lo' hi' a' b' = some (l', h'))) (Hs : Hid (sameSp l.bits h.bits false false l'.bits h'.bits false false = false)) (C1 : Hid (cmpR (canonS lo hi a b) (canonS lo' hi' a' b') = (-1))) (C2 : Hid (cmpR (canonS lo' hi' a' b') (canonS lo hi a b) = 1)) (C3 : Hid (cmpR (some (l, h)) (some (l', h')) = (-1))) :
    Calls Try.prog 8 #[.agg #[.float .f64 lo, .float .f64 hi, .bool a, .bool b], .agg #[.float .f64 lo', .float .f64 hi', .bool a', .bool b']] w (Ret (.bool true) w) := by
  go_enter Try.func8, Try.ntmps8
  go_wp2_with (first | (go_at_call 25; (with_reducible refine (at_any _ _ _).mono ?_); rintro e w1 ⟨rfl, hb1⟩; obtain ⟨hc1, hf1⟩ := bcell hb1; (try simp only [World.heap_drewN, World.cell?_drewN, World.frozen?_drewN] at hc1 hf1); have hz1 := hb1.size; (try simp at hz1); (try have hy1_0 : w.heap.size < w1.heap.size := by omega); (try have hy1_1 : w.heap.size + 1 < w1.heap.size := by omega); (try have hy1_2 : w.heap.size + 2 < w1.heap.size := by omega); (try have hy1_3 : w.heap.size + 3 < w1.heap.size := by omega); (try have hx1_0 : w.heap.size ≤ w1.heap.size := by omega); (try have hx1_1 : w.heap.size + 1 ≤ w1.heap.size := by omega); (try have hx1_2 : w.heap.size + 2 ≤ w1.heap.size := by omega)) | (go_at_call 39; (with_reducible refine (cmp_lits _).mono ?_); rintro e w2 ⟨rfl, hb2⟩; obtain ⟨hc2, hf2⟩ := bcell hb2; (try simp only [World.heap_drewN, World.cell?_drewN, World.frozen?_drewN] at hc2 hf2); have hz2 := hb2.size; (try simp at hz2); (try have hy2_0 : w.heap.size < w2.heap.size := by omega); (try have hy2_1 : w.heap.size + 1 < w2.heap.size := by omega); (try have hy2_2 : w.heap.size + 2 < w2.heap.size := by omega); (try have hy2_3 : w.heap.size + 3 < w2.heap.size := by omega); (try have hx2_0 : w.heap.size ≤ w2.heap.size := by omega); (try have hx2_1 : w.heap.size + 1 ≤ w2.heap.size := by omega); (try have hx2_2 : w.heap.size + 2 ≤ w2.heap.size := by omega)))
  refine wp_region_notes [Note.val (.agg #[.float .f64 lo, .float .f64 hi, .bool a, .bool b]), Note.val (.agg #[.int .u64 (kcode l), .int .u64 (kcode h)]), Note.val (.agg #[.float .f64 lo', .float .f64 hi', .bool a', .bool b']), Note.val (.agg #[.int .u64 (kcode l'), .int .u64 (kcode h')]), Note.ptr [.int .u64 0, .int .u64 0], Note.ptr [.int .u64 0, .int .u64 0]] rfl (by kernel_rfl) (by kernel_rfl) ?_ ?_
  · simp only [List.length_cons, List.length_nil, Nat.reduceAdd, List.take_succ_cons, List.take_zero, StepsN, List.nil_append, List.cons_append]
    refine ⟨?_, ?_, ?_, ?_, ?_, ?_, trivial⟩
    · intro u w3 hb3 hd
      obtain ⟨hc3, hf3⟩ := bcell hb3
      have hz3 := hb3.size
      (try simp at hz3)
      (try have hy3_0 : w.heap.size < w3.heap.size := by omega)
      (try have hy3_1 : w.heap.size + 1 < w3.heap.size := by omega)
      (try have hy3_2 : w.heap.size + 2 < w3.heap.size := by omega)
      (try have hy3_3 : w.heap.size + 3 < w3.heap.size := by omega)
      (try have hx3_0 : w.heap.size ≤ w3.heap.size := by omega)
      (try have hx3_1 : w.heap.size + 1 ≤ w3.heap.size := by omega)
      (try have hx3_2 : w.heap.size + 2 ≤ w3.heap.size := by omega)
      (try (simp [Region.binds, Note.phi, cellsAre] at hd))
      revert hd
      (try simp only [putsFrom, Act.put, List.setIfInBounds_toArray, List.set_cons_zero, List.set_cons_succ, Nat.zero_add, Nat.reduceAdd])
      ((try simp only [forall_exists_index, and_imp]); intros)
      clear u
      go_wp2_with (first | (go_at_call 16; (with_reducible refine (refOf_isS lo hi a b l h _ hl hh Hr).mono ?_); rintro e wy ⟨rfl, hby⟩) | (go_at_call 16; (with_reducible refine (refOf_isS lo' hi' a' b' l' h' _ hl' hh' Hr').mono ?_); rintro e wy ⟨rfl, hby⟩))
      exact ⟨rfl, by (repeat (first | with_reducible exact Below.refl _ _ | ((with_reducible refine Below.alloc1 ?_ ?_ _); (· first | omega | (simp; done) | (simp; omega))) | (with_reducible refine Below.drew ?_) | (with_reducible refine below_drewN' ?_ _) | ((with_reducible refine Below.setCell1 ?_ ?_ _); (· first | omega | (simp; done) | (simp; omega))) | ((with_reducible refine Below.after (by assumption) ?_ ?_); (· first | omega | (simp; done) | (simp; omega))))), rfl⟩
    · intro u w3 hb3 hd
      obtain ⟨hc3, hf3⟩ := bcell hb3
      have hz3 := hb3.size
      (try simp at hz3)
      (try have hy3_0 : w.heap.size < w3.heap.size := by omega)
      (try have hy3_1 : w.heap.size + 1 < w3.heap.size := by omega)
      (try have hy3_2 : w.heap.size + 2 < w3.heap.size := by omega)
      (try have hy3_3 : w.heap.size + 3 < w3.heap.size := by omega)
      (try have hx3_0 : w.heap.size ≤ w3.heap.size := by omega)
      (try have hx3_1 : w.heap.size + 1 ≤ w3.heap.size := by omega)
      (try have hx3_2 : w.heap.size + 2 ≤ w3.heap.size := by omega)
      (try (simp [Region.binds, Note.phi, cellsAre] at hd))
      revert hd
      (try simp only [putsFrom, Act.put, List.setIfInBounds_toArray, List.set_cons_zero, List.set_cons_succ, Nat.zero_add, Nat.reduceAdd])
      generalize u 0 = u0
      ((try simp only [forall_exists_index, and_imp]); intros)
      (try subst u0)
      clear u
      go_wp2_with (first | (go_at_call 16; (with_reducible refine (refOf_isS lo hi a b l h _ hl hh Hr).mono ?_); rintro e wy ⟨rfl, hby⟩) | (go_at_call 16; (with_reducible refine (refOf_isS lo' hi' a' b' l' h' _ hl' hh' Hr').mono ?_); rintro e wy ⟨rfl, hby⟩))
      exact ⟨rfl, by (repeat (first | with_reducible exact Below.refl _ _ | ((with_reducible refine Below.alloc1 ?_ ?_ _); (· first | omega | (simp; done) | (simp; omega))) | (with_reducible refine Below.drew ?_) | (with_reducible refine below_drewN' ?_ _) | ((with_reducible refine Below.setCell1 ?_ ?_ _); (· first | omega | (simp; done) | (simp; omega))) | ((with_reducible refine Below.after (by assumption) ?_ ?_); (· first | omega | (simp; done) | (simp; omega))))), rfl⟩
    · intro u w3 hb3 hd
      obtain ⟨hc3, hf3⟩ := bcell hb3
      have hz3 := hb3.size
      (try simp at hz3)
      (try have hy3_0 : w.heap.size < w3.heap.size := by omega)
      (try have hy3_1 : w.heap.size + 1 < w3.heap.size := by omega)
      (try have hy3_2 : w.heap.size + 2 < w3.heap.size := by omega)
      (try have hy3_3 : w.heap.size + 3 < w3.heap.size := by omega)
      (try have hx3_0 : w.heap.size ≤ w3.heap.size := by omega)
      (try have hx3_1 : w.heap.size + 1 ≤ w3.heap.size := by omega)
      (try have hx3_2 : w.heap.size + 2 ≤ w3.heap.size := by omega)
      (try (simp [Region.binds, Note.phi, cellsAre] at hd))
      revert hd
      (try simp only [putsFrom, Act.put, List.setIfInBounds_toArray, List.set_cons_zero, List.set_cons_succ, Nat.zero_add, Nat.reduceAdd])
      generalize u 0 = u0
      generalize u 1 = u1
      ((try simp only [forall_exists_index, and_imp]); intros)
      (try subst u0)
      (try subst u1)
      clear u
      go_wp2_with (first | (go_at_call 16; (with_reducible refine (refOf_isS lo hi a b l h _ hl hh Hr).mono ?_); rintro e wy ⟨rfl, hby⟩) | (go_at_call 16; (with_reducible refine (refOf_isS lo' hi' a' b' l' h' _ hl' hh' Hr').mono ?_); rintro e wy ⟨rfl, hby⟩))
      exact ⟨rfl, by (repeat (first | with_reducible exact Below.refl _ _ | ((with_reducible refine Below.alloc1 ?_ ?_ _); (· first | omega | (simp; done) | (simp; omega))) | (with_reducible refine Below.drew ?_) | (with_reducible refine below_drewN' ?_ _) | ((with_reducible refine Below.setCell1 ?_ ?_ _); (· first | omega | (simp; done) | (simp; omega))) | ((with_reducible refine Below.after (by assumption) ?_ ?_); (· first | omega | (simp; done) | (simp; omega))))), rfl⟩
    · intro u w3 hb3 hd
      obtain ⟨hc3, hf3⟩ := bcell hb3
      have hz3 := hb3.size
      (try simp at hz3)
      (try have hy3_0 : w.heap.size < w3.heap.size := by omega)
      (try have hy3_1 : w.heap.size + 1 < w3.heap.size := by omega)
      (try have hy3_2 : w.heap.size + 2 < w3.heap.size := by omega)
      (try have hy3_3 : w.heap.size + 3 < w3.heap.size := by omega)
      (try have hx3_0 : w.heap.size ≤ w3.heap.size := by omega)
      (try have hx3_1 : w.heap.size + 1 ≤ w3.heap.size := by omega)
      (try have hx3_2 : w.heap.size + 2 ≤ w3.heap.size := by omega)
      (try (simp [Region.binds, Note.phi, cellsAre] at hd))
      revert hd
      (try simp only [putsFrom, Act.put, List.setIfInBounds_toArray, List.set_cons_zero, List.set_cons_succ, Nat.zero_add, Nat.reduceAdd])
      generalize u 0 = u0
      generalize u 1 = u1
      generalize u 2 = u2
      ((try simp only [forall_exists_index, and_imp]); intros)
      (try subst u0)
      (try subst u1)
      (try subst u2)
      clear u
      go_wp2_with (first | (go_at_call 16; (with_reducible refine (refOf_isS lo hi a b l h _ hl hh Hr).mono ?_); rintro e wy ⟨rfl, hby⟩) | (go_at_call 16; (with_reducible refine (refOf_isS lo' hi' a' b' l' h' _ hl' hh' Hr').mono ?_); rintro e wy ⟨rfl, hby⟩))
      exact ⟨rfl, by (repeat (first | with_reducible exact Below.refl _ _ | ((with_reducible refine Below.alloc1 ?_ ?_ _); (· first | omega | (simp; done) | (simp; omega))) | (with_reducible refine Below.drew ?_) | (with_reducible refine below_drewN' ?_ _) | ((with_reducible refine Below.setCell1 ?_ ?_ _); (· first | omega | (simp; done) | (simp; omega))) | ((with_reducible refine Below.after (by assumption) ?_ ?_); (· first | omega | (simp; done) | (simp; omega))))), rfl⟩
    · intro u w3 hb3 hd
      obtain ⟨hc3, hf3⟩ := bcell hb3
      have hz3 := hb3.size
      (try simp at hz3)
      (try have hy3_0 : w.heap.size < w3.heap.size := by omega)
      (try have hy3_1 : w.heap.size + 1 < w3.heap.size := by omega)
      (try have hy3_2 : w.heap.size + 2 < w3.heap.size := by omega)
      (try have hy3_3 : w.heap.size + 3 < w3.heap.size := by omega)
      (try have hx3_0 : w.heap.size ≤ w3.heap.size := by omega)
      (try have hx3_1 : w.heap.size + 1 ≤ w3.heap.size := by omega)
      (try have hx3_2 : w.heap.size + 2 ≤ w3.heap.size := by omega)
      (try (simp [Region.binds, Note.phi, cellsAre] at hd))
      revert hd
      (try simp only [putsFrom, Act.put, List.setIfInBounds_toArray, List.set_cons_zero, List.set_cons_succ, Nat.zero_add, Nat.reduceAdd])
      generalize u 0 = u0
      generalize u 1 = u1
      generalize u 2 = u2
      generalize u 3 = u3
      ((try simp only [forall_exists_index, and_imp]); intros)
      (try subst u0)
      (try subst u1)
      (try subst u2)
      (try subst u3)
      clear u
      go_wp2_with (first | (go_at_call 16; (with_reducible refine (refOf_isS lo hi a b l h _ hl hh Hr).mono ?_); rintro e wy ⟨rfl, hby⟩) | (go_at_call 16; (with_reducible refine (refOf_isS lo' hi' a' b' l' h' _ hl' hh' Hr').mono ?_); rintro e wy ⟨rfl, hby⟩))
      exact ⟨rfl, by (repeat (first | with_reducible exact Below.refl _ _ | ((with_reducible refine Below.alloc1 ?_ ?_ _); (· first | omega | (simp; done) | (simp; omega))) | (with_reducible refine Below.drew ?_) | (with_reducible refine below_drewN' ?_ _) | ((with_reducible refine Below.setCell1 ?_ ?_ _); (· first | omega | (simp; done) | (simp; omega))) | ((with_reducible refine Below.after (by assumption) ?_ ?_); (· first | omega | (simp; done) | (simp; omega))))), w3.heap.size, rfl, Nat.le_refl _, by simp, by simp [cellsAre, go_sem]⟩
    · intro u w3 hb3 hd
      obtain ⟨hc3, hf3⟩ := bcell hb3
      have hz3 := hb3.size
      (try simp at hz3)
      (try have hy3_0 : w.heap.size < w3.heap.size := by omega)
      (try have hy3_1 : w.heap.size + 1 < w3.heap.size := by omega)
      (try have hy3_2 : w.heap.size + 2 < w3.heap.size := by omega)
      (try have hy3_3 : w.heap.size + 3 < w3.heap.size := by omega)
      (try have hx3_0 : w.heap.size ≤ w3.heap.size := by omega)
      (try have hx3_1 : w.heap.size + 1 ≤ w3.heap.size := by omega)
      (try have hx3_2 : w.heap.size + 2 ≤ w3.heap.size := by omega)
      (try (simp [Region.binds, Note.phi, cellsAre] at hd))
      revert hd
      (try simp only [putsFrom, Act.put, List.setIfInBounds_toArray, List.set_cons_zero, List.set_cons_succ, Nat.zero_add, Nat.reduceAdd])
      generalize u 0 = u0
      generalize u 1 = u1
      generalize u 2 = u2
      generalize u 3 = u3
      generalize u 4 = u4
      ((try simp only [forall_exists_index, and_imp]); intros)
      (try subst u0)
      (try subst u1)
      (try subst u2)
      (try subst u3)
      (try subst u4)
      clear u
      go_wp2_with (first | (go_at_call 16; (with_reducible refine (refOf_isS lo hi a b l h _ hl hh Hr).mono ?_); rintro e wy ⟨rfl, hby⟩) | (go_at_call 16; (with_reducible refine (refOf_isS lo' hi' a' b' l' h' _ hl' hh' Hr').mono ?_); rintro e wy ⟨rfl, hby⟩))
      exact ⟨rfl, by (repeat (first | with_reducible exact Below.refl _ _ | ((with_reducible refine Below.alloc1 ?_ ?_ _); (· first | omega | (simp; done) | (simp; omega))) | (with_reducible refine Below.drew ?_) | (with_reducible refine below_drewN' ?_ _) | ((with_reducible refine Below.setCell1 ?_ ?_ _); (· first | omega | (simp; done) | (simp; omega))) | ((with_reducible refine Below.after (by assumption) ?_ ?_); (· first | omega | (simp; done) | (simp; omega))))), w3.heap.size, rfl, Nat.le_refl _, by simp, by simp [cellsAre, go_sem]⟩
  · intro u w3 hb3 hph hap
    obtain ⟨hc3, hf3⟩ := bcell hb3
    have hz3 := hb3.size
    (try simp at hz3)
    (try have hy3_0 : w.heap.size < w3.heap.size := by omega)
    (try have hy3_1 : w.heap.size + 1 < w3.heap.size := by omega)
    (try have hy3_2 : w.heap.size + 2 < w3.heap.size := by omega)
    (try have hy3_3 : w.heap.size + 3 < w3.heap.size := by omega)
    (try have hx3_0 : w.heap.size ≤ w3.heap.size := by omega)
    (try have hx3_1 : w.heap.size + 1 ≤ w3.heap.size := by omega)
    (try have hx3_2 : w.heap.size + 2 ≤ w3.heap.size := by omega)
    have hp0 := hph 0 (by simp)
    have hp1 := hph 1 (by simp)
    have hp2 := hph 2 (by simp)
    have hp3 := hph 3 (by simp)
    have hp4 := hph 4 (by simp)
    have hp5 := hph 5 (by simp)
    have ha4_5 := hap 4 5 (by simp) (by simp) (by decide) rfl rfl
    have ha5_4 := hap 5 4 (by simp) (by simp) (by decide) rfl rfl
    clear hph hap
    simp only [List.length_cons, List.length_nil, List.take_succ_cons, List.take_zero, List.drop_succ_cons, List.drop_zero, putsFrom, Act.put, List.setIfInBounds_toArray, List.set_cons_zero, List.set_cons_succ, Nat.zero_add, Nat.reduceAdd]
    generalize u 0 = u0 at *
    generalize u 1 = u1 at *
    generalize u 2 = u2 at *
    generalize u 3 = u3 at *
    generalize u 4 = u4 at *
    generalize u 5 = u5 at *
    clear u
    cases hp0
    cases hp1
    cases hp2
    cases hp3
    obtain ⟨B4, rfl, hl4, hg4, hs4⟩ := hp4
    simp only [cellsAre, and_true] at hs4
    obtain ⟨B5, rfl, hl5, hg5, hs5⟩ := hp5
    simp only [cellsAre, and_true] at hs5
    simp only [blkOf, ne_eq, Option.some.injEq] at ha4_5
    simp only [blkOf, ne_eq, Option.some.injEq] at ha5_4
    go_wp2_with (first | (go_at_call 39; (with_reducible refine (cmp_is lo hi lo' hi' a b a' b' (-1) _ hl hh hl' hh' C1).mono ?_); rintro e w4 ⟨rfl, hb4⟩; obtain ⟨hc4, hf4⟩ := bcell hb4; (try simp only [World.heap_drewN, World.cell?_drewN, World.frozen?_drewN] at hc4 hf4); have hz4 := hb4.size; (try simp at hz4); (try have hy4_0 : w.heap.size < w4.heap.size := by omega); (try have hy4_1 : w.heap.size + 1 < w4.heap.size := by omega); (try have hy4_2 : w.heap.size + 2 < w4.heap.size := by omega); (try have hy4_3 : w.heap.size + 3 < w4.heap.size := by omega); (try have hx4_0 : w.heap.size ≤ w4.heap.size := by omega); (try have hx4_1 : w.heap.size + 1 ≤ w4.heap.size := by omega); (try have hx4_2 : w.heap.size + 2 ≤ w4.heap.size := by omega)))
    have hq4 : B4 < w4.heap.size := by omega
    have hq5 : B5 < w4.heap.size := by omega
    (refine wp_region_ext (by kernel_rfl) (by kernel_rfl) ?_; (repeat (go_big_quiet_step (first | (go_at_call 40; with_reducible exact Calls.ext_of (refCmp_is l h l' h' (-1) H1 H2 _ C3)) | (go_at_call 39; with_reducible exact Calls.ext_of (cmp_is lo' hi' lo hi a' b' a b 1 _ hl' hh' hl hh C2)) | (go_at_call 18; with_reducible exact Calls.ext_of (canon_isS lo hi a b l h _ hl hh Hr)) | (go_at_call 18; with_reducible exact Calls.ext_of (canon_isS lo' hi' a' b' l' h' _ hl' hh' Hr')) | (go_at_call 17; with_reducible exact Calls.ext_of (sameSpan_is l.bits h.bits l'.bits h'.bits false false false false false _ Hs))))); refine wpQuiet_nil ?_; rintro w5 ⟨x5, hx5⟩; have hb5 := x5.b; rw [← hx5] at hb5; clear hx5 x5; obtain ⟨hc5, hf5⟩ := bcell hb5; (try simp only [World.heap_drewN, World.cell?_drewN, World.frozen?_drewN] at hc5 hf5); have hz5 := hb5.size; (try simp at hz5); (try have hy5_0 : w.heap.size < w5.heap.size := by omega); (try have hy5_1 : w.heap.size + 1 < w5.heap.size := by omega); (try have hy5_2 : w.heap.size + 2 < w5.heap.size := by omega); (try have hy5_3 : w.heap.size + 3 < w5.heap.size := by omega); (try have hx5_0 : w.heap.size ≤ w5.heap.size := by omega); (try have hx5_1 : w.heap.size + 1 ≤ w5.heap.size := by omega); (try have hx5_2 : w.heap.size + 2 ≤ w5.heap.size := by omega))
    go_wp2_with fail
    exact bodyPost_ret (v := .bool true) (by simp [results, Try.results8, go_sem, *]) rfl ⟨rfl, by (repeat (first | with_reducible exact Below.refl _ _ | ((with_reducible refine Below.alloc1 ?_ ?_ _); (· first | omega | (simp; done) | (simp; omega))) | (with_reducible refine Below.drew ?_) | (with_reducible refine below_drewN' ?_ _) | ((with_reducible refine Below.setCell1 ?_ ?_ _); (· first | omega | (simp; done) | (simp; omega))) | ((with_reducible refine Below.after (by assumption) ?_ ?_); (· first | omega | (simp; done) | (simp; omega)))))⟩

set_option maxRecDepth 100000 in
theorem order_SSe (lo hi lo' hi' : Nat) (a b a' b' : Bool) (w : World) (hl : lo < 2 ^ 64) (hh : hi < 2 ^ 64) (hl' : lo' < 2 ^ 64) (hh' : hi' < 2 ^ 64) (l h : Key) (H1 : Hid (l.v ≤ h.v)) (Hr : Hid (canonS lo hi a b = some (l, h))) (l' h' : Key) (H2 : Hid (l'.v ≤ h'.v)) (Hr' : Hid (canonS lo' hi' a' b' = some (l', h'))) (Hs : Hid (sameSp l.bits h.bits false false l'.bits h'.bits false false = true)) (C1 : Hid (cmpR (canonS lo hi a b) (canonS lo' hi' a' b') = 0)) (C2 : Hid (cmpR (canonS lo' hi' a' b') (canonS lo hi a b) = 0)) (C3 : Hid (cmpR (some (l, h)) (some (l', h')) = 0)) :
    Calls Try.prog 8 #[.agg #[.float .f64 lo, .float .f64 hi, .bool a, .bool b], .agg #[.float .f64 lo', .float .f64 hi', .bool a', .bool b']] w (Ret (.bool true) w) := by
  go_enter Try.func8, Try.ntmps8
  go_wp2_with (first | (go_at_call 25; (with_reducible refine (at_any _ _ _).mono ?_); rintro e w1 ⟨rfl, hb1⟩; obtain ⟨hc1, hf1⟩ := bcell hb1; (try simp only [World.heap_drewN, World.cell?_drewN, World.frozen?_drewN] at hc1 hf1); have hz1 := hb1.size; (try simp at hz1); (try have hy1_0 : w.heap.size < w1.heap.size := by omega); (try have hy1_1 : w.heap.size + 1 < w1.heap.size := by omega); (try have hy1_2 : w.heap.size + 2 < w1.heap.size := by omega); (try have hy1_3 : w.heap.size + 3 < w1.heap.size := by omega); (try have hx1_0 : w.heap.size ≤ w1.heap.size := by omega); (try have hx1_1 : w.heap.size + 1 ≤ w1.heap.size := by omega); (try have hx1_2 : w.heap.size + 2 ≤ w1.heap.size := by omega)) | (go_at_call 39; (with_reducible refine (cmp_lits _).mono ?_); rintro e w2 ⟨rfl, hb2⟩; obtain ⟨hc2, hf2⟩ := bcell hb2; (try simp only [World.heap_drewN, World.cell?_drewN, World.frozen?_drewN] at hc2 hf2); have hz2 := hb2.size; (try simp at hz2); (try have hy2_0 : w.heap.size < w2.heap.size := by omega); (try have hy2_1 : w.heap.size + 1 < w2.heap.size := by omega); (try have hy2_2 : w.heap.size + 2 < w2.heap.size := by omega); (try have hy2_3 : w.heap.size + 3 < w2.heap.size := by omega); (try have hx2_0 : w.heap.size ≤ w2.heap.size := by omega); (try have hx2_1 : w.heap.size + 1 ≤ w2.heap.size := by omega); (try have hx2_2 : w.heap.size + 2 ≤ w2.heap.size := by omega)))
  refine wp_region_notes [Note.val (.agg #[.float .f64 lo, .float .f64 hi, .bool a, .bool b]), Note.val (.agg #[.int .u64 (kcode l), .int .u64 (kcode h)]), Note.val (.agg #[.float .f64 lo', .float .f64 hi', .bool a', .bool b']), Note.val (.agg #[.int .u64 (kcode l'), .int .u64 (kcode h')]), Note.ptr [.int .u64 0, .int .u64 0], Note.ptr [.int .u64 0, .int .u64 0]] rfl (by kernel_rfl) (by kernel_rfl) ?_ ?_
  · simp only [List.length_cons, List.length_nil, Nat.reduceAdd, List.take_succ_cons, List.take_zero, StepsN, List.nil_append, List.cons_append]
    refine ⟨?_, ?_, ?_, ?_, ?_, ?_, trivial⟩
    · intro u w3 hb3 hd
      obtain ⟨hc3, hf3⟩ := bcell hb3
      have hz3 := hb3.size
      (try simp at hz3)
      (try have hy3_0 : w.heap.size < w3.heap.size := by omega)
      (try have hy3_1 : w.heap.size + 1 < w3.heap.size := by omega)
      (try have hy3_2 : w.heap.size + 2 < w3.heap.size := by omega)
      (try have hy3_3 : w.heap.size + 3 < w3.heap.size := by omega)
      (try have hx3_0 : w.heap.size ≤ w3.heap.size := by omega)
      (try have hx3_1 : w.heap.size + 1 ≤ w3.heap.size := by omega)
      (try have hx3_2 : w.heap.size + 2 ≤ w3.heap.size := by omega)
      (try (simp [Region.binds, Note.phi, cellsAre] at hd))
      revert hd
      (try simp only [putsFrom, Act.put, List.setIfInBounds_toArray, List.set_cons_zero, List.set_cons_succ, Nat.zero_add, Nat.reduceAdd])
      ((try simp only [forall_exists_index, and_imp]); intros)
      clear u
      go_wp2_with (first | (go_at_call 16; (with_reducible refine (refOf_isS lo hi a b l h _ hl hh Hr).mono ?_); rintro e wy ⟨rfl, hby⟩) | (go_at_call 16; (with_reducible refine (refOf_isS lo' hi' a' b' l' h' _ hl' hh' Hr').mono ?_); rintro e wy ⟨rfl, hby⟩))
      exact ⟨rfl, by (repeat (first | with_reducible exact Below.refl _ _ | ((with_reducible refine Below.alloc1 ?_ ?_ _); (· first | omega | (simp; done) | (simp; omega))) | (with_reducible refine Below.drew ?_) | (with_reducible refine below_drewN' ?_ _) | ((with_reducible refine Below.setCell1 ?_ ?_ _); (· first | omega | (simp; done) | (simp; omega))) | ((with_reducible refine Below.after (by assumption) ?_ ?_); (· first | omega | (simp; done) | (simp; omega))))), rfl⟩
    · intro u w3 hb3 hd
      obtain ⟨hc3, hf3⟩ := bcell hb3
      have hz3 := hb3.size
      (try simp at hz3)
      (try have hy3_0 : w.heap.size < w3.heap.size := by omega)
      (try have hy3_1 : w.heap.size + 1 < w3.heap.size := by omega)
      (try have hy3_2 : w.heap.size + 2 < w3.heap.size := by omega)
      (try have hy3_3 : w.heap.size + 3 < w3.heap.size := by omega)
      (try have hx3_0 : w.heap.size ≤ w3.heap.size := by omega)
      (try have hx3_1 : w.heap.size + 1 ≤ w3.heap.size := by omega)
      (try have hx3_2 : w.heap.size + 2 ≤ w3.heap.size := by omega)
      (try (simp [Region.binds, Note.phi, cellsAre] at hd))
      revert hd
      (try simp only [putsFrom, Act.put, List.setIfInBounds_toArray, List.set_cons_zero, List.set_cons_succ, Nat.zero_add, Nat.reduceAdd])
      generalize u 0 = u0
      ((try simp only [forall_exists_index, and_imp]); intros)
      (try subst u0)
      clear u
      go_wp2_with (first | (go_at_call 16; (with_reducible refine (refOf_isS lo hi a b l h _ hl hh Hr).mono ?_); rintro e wy ⟨rfl, hby⟩) | (go_at_call 16; (with_reducible refine (refOf_isS lo' hi' a' b' l' h' _ hl' hh' Hr').mono ?_); rintro e wy ⟨rfl, hby⟩))
      exact ⟨rfl, by (repeat (first | with_reducible exact Below.refl _ _ | ((with_reducible refine Below.alloc1 ?_ ?_ _); (· first | omega | (simp; done) | (simp; omega))) | (with_reducible refine Below.drew ?_) | (with_reducible refine below_drewN' ?_ _) | ((with_reducible refine Below.setCell1 ?_ ?_ _); (· first | omega | (simp; done) | (simp; omega))) | ((with_reducible refine Below.after (by assumption) ?_ ?_); (· first | omega | (simp; done) | (simp; omega))))), rfl⟩
    · intro u w3 hb3 hd
      obtain ⟨hc3, hf3⟩ := bcell hb3
      have hz3 := hb3.size
      (try simp at hz3)
      (try have hy3_0 : w.heap.size < w3.heap.size := by omega)
      (try have hy3_1 : w.heap.size + 1 < w3.heap.size := by omega)
      (try have hy3_2 : w.heap.size + 2 < w3.heap.size := by omega)
      (try have hy3_3 : w.heap.size + 3 < w3.heap.size := by omega)
      (try have hx3_0 : w.heap.size ≤ w3.heap.size := by omega)
      (try have hx3_1 : w.heap.size + 1 ≤ w3.heap.size := by omega)
      (try have hx3_2 : w.heap.size + 2 ≤ w3.heap.size := by omega)
      (try (simp [Region.binds, Note.phi, cellsAre] at hd))
      revert hd
      (try simp only [putsFrom, Act.put, List.setIfInBounds_toArray, List.set_cons_zero, List.set_cons_succ, Nat.zero_add, Nat.reduceAdd])
      generalize u 0 = u0
      generalize u 1 = u1
      ((try simp only [forall_exists_index, and_imp]); intros)
      (try subst u0)
      (try subst u1)
      clear u
      go_wp2_with (first | (go_at_call 16; (with_reducible refine (refOf_isS lo hi a b l h _ hl hh Hr).mono ?_); rintro e wy ⟨rfl, hby⟩) | (go_at_call 16; (with_reducible refine (refOf_isS lo' hi' a' b' l' h' _ hl' hh' Hr').mono ?_); rintro e wy ⟨rfl, hby⟩))
      exact ⟨rfl, by (repeat (first | with_reducible exact Below.refl _ _ | ((with_reducible refine Below.alloc1 ?_ ?_ _); (· first | omega | (simp; done) | (simp; omega))) | (with_reducible refine Below.drew ?_) | (with_reducible refine below_drewN' ?_ _) | ((with_reducible refine Below.setCell1 ?_ ?_ _); (· first | omega | (simp; done) | (simp; omega))) | ((with_reducible refine Below.after (by assumption) ?_ ?_); (· first | omega | (simp; done) | (simp; omega))))), rfl⟩
    · intro u w3 hb3 hd
      obtain ⟨hc3, hf3⟩ := bcell hb3
      have hz3 := hb3.size
      (try simp at hz3)
      (try have hy3_0 : w.heap.size < w3.heap.size := by omega)
      (try have hy3_1 : w.heap.size + 1 < w3.heap.size := by omega)
      (try have hy3_2 : w.heap.size + 2 < w3.heap.size := by omega)
      (try have hy3_3 : w.heap.size + 3 < w3.heap.size := by omega)
      (try have hx3_0 : w.heap.size ≤ w3.heap.size := by omega)
      (try have hx3_1 : w.heap.size + 1 ≤ w3.heap.size := by omega)
      (try have hx3_2 : w.heap.size + 2 ≤ w3.heap.size := by omega)
      (try (simp [Region.binds, Note.phi, cellsAre] at hd))
      revert hd
      (try simp only [putsFrom, Act.put, List.setIfInBounds_toArray, List.set_cons_zero, List.set_cons_succ, Nat.zero_add, Nat.reduceAdd])
      generalize u 0 = u0
      generalize u 1 = u1
      generalize u 2 = u2
      ((try simp only [forall_exists_index, and_imp]); intros)
      (try subst u0)
      (try subst u1)
      (try subst u2)
      clear u
      go_wp2_with (first | (go_at_call 16; (with_reducible refine (refOf_isS lo hi a b l h _ hl hh Hr).mono ?_); rintro e wy ⟨rfl, hby⟩) | (go_at_call 16; (with_reducible refine (refOf_isS lo' hi' a' b' l' h' _ hl' hh' Hr').mono ?_); rintro e wy ⟨rfl, hby⟩))
      exact ⟨rfl, by (repeat (first | with_reducible exact Below.refl _ _ | ((with_reducible refine Below.alloc1 ?_ ?_ _); (· first | omega | (simp; done) | (simp; omega))) | (with_reducible refine Below.drew ?_) | (with_reducible refine below_drewN' ?_ _) | ((with_reducible refine Below.setCell1 ?_ ?_ _); (· first | omega | (simp; done) | (simp; omega))) | ((with_reducible refine Below.after (by assumption) ?_ ?_); (· first | omega | (simp; done) | (simp; omega))))), rfl⟩
    · intro u w3 hb3 hd
      obtain ⟨hc3, hf3⟩ := bcell hb3
      have hz3 := hb3.size
      (try simp at hz3)
      (try have hy3_0 : w.heap.size < w3.heap.size := by omega)
      (try have hy3_1 : w.heap.size + 1 < w3.heap.size := by omega)
      (try have hy3_2 : w.heap.size + 2 < w3.heap.size := by omega)
      (try have hy3_3 : w.heap.size + 3 < w3.heap.size := by omega)
      (try have hx3_0 : w.heap.size ≤ w3.heap.size := by omega)
      (try have hx3_1 : w.heap.size + 1 ≤ w3.heap.size := by omega)
      (try have hx3_2 : w.heap.size + 2 ≤ w3.heap.size := by omega)
      (try (simp [Region.binds, Note.phi, cellsAre] at hd))
      revert hd
      (try simp only [putsFrom, Act.put, List.setIfInBounds_toArray, List.set_cons_zero, List.set_cons_succ, Nat.zero_add, Nat.reduceAdd])
      generalize u 0 = u0
      generalize u 1 = u1
      generalize u 2 = u2
      generalize u 3 = u3
      ((try simp only [forall_exists_index, and_imp]); intros)
      (try subst u0)
      (try subst u1)
      (try subst u2)
      (try subst u3)
      clear u
      go_wp2_with (first | (go_at_call 16; (with_reducible refine (refOf_isS lo hi a b l h _ hl hh Hr).mono ?_); rintro e wy ⟨rfl, hby⟩) | (go_at_call 16; (with_reducible refine (refOf_isS lo' hi' a' b' l' h' _ hl' hh' Hr').mono ?_); rintro e wy ⟨rfl, hby⟩))
      exact ⟨rfl, by (repeat (first | with_reducible exact Below.refl _ _ | ((with_reducible refine Below.alloc1 ?_ ?_ _); (· first | omega | (simp; done) | (simp; omega))) | (with_reducible refine Below.drew ?_) | (with_reducible refine below_drewN' ?_ _) | ((with_reducible refine Below.setCell1 ?_ ?_ _); (· first | omega | (simp; done) | (simp; omega))) | ((with_reducible refine Below.after (by assumption) ?_ ?_); (· first | omega | (simp; done) | (simp; omega))))), w3.heap.size, rfl, Nat.le_refl _, by simp, by simp [cellsAre, go_sem]⟩
    · intro u w3 hb3 hd
      obtain ⟨hc3, hf3⟩ := bcell hb3
      have hz3 := hb3.size
      (try simp at hz3)
      (try have hy3_0 : w.heap.size < w3.heap.size := by omega)
      (try have hy3_1 : w.heap.size + 1 < w3.heap.size := by omega)
      (try have hy3_2 : w.heap.size + 2 < w3.heap.size := by omega)
      (try have hy3_3 : w.heap.size + 3 < w3.heap.size := by omega)
      (try have hx3_0 : w.heap.size ≤ w3.heap.size := by omega)
      (try have hx3_1 : w.heap.size + 1 ≤ w3.heap.size := by omega)
      (try have hx3_2 : w.heap.size + 2 ≤ w3.heap.size := by omega)
      (try (simp [Region.binds, Note.phi, cellsAre] at hd))
      revert hd
      (try simp only [putsFrom, Act.put, List.setIfInBounds_toArray, List.set_cons_zero, List.set_cons_succ, Nat.zero_add, Nat.reduceAdd])
      generalize u 0 = u0
      generalize u 1 = u1
      generalize u 2 = u2
      generalize u 3 = u3
      generalize u 4 = u4
      ((try simp only [forall_exists_index, and_imp]); intros)
      (try subst u0)
      (try subst u1)
      (try subst u2)
      (try subst u3)
      (try subst u4)
      clear u
      go_wp2_with (first | (go_at_call 16; (with_reducible refine (refOf_isS lo hi a b l h _ hl hh Hr).mono ?_); rintro e wy ⟨rfl, hby⟩) | (go_at_call 16; (with_reducible refine (refOf_isS lo' hi' a' b' l' h' _ hl' hh' Hr').mono ?_); rintro e wy ⟨rfl, hby⟩))
      exact ⟨rfl, by (repeat (first | with_reducible exact Below.refl _ _ | ((with_reducible refine Below.alloc1 ?_ ?_ _); (· first | omega | (simp; done) | (simp; omega))) | (with_reducible refine Below.drew ?_) | (with_reducible refine below_drewN' ?_ _) | ((with_reducible refine Below.setCell1 ?_ ?_ _); (· first | omega | (simp; done) | (simp; omega))) | ((with_reducible refine Below.after (by assumption) ?_ ?_); (· first | omega | (simp; done) | (simp; omega))))), w3.heap.size, rfl, Nat.le_refl _, by simp, by simp [cellsAre, go_sem]⟩
  · intro u w3 hb3 hph hap
    obtain ⟨hc3, hf3⟩ := bcell hb3
    have hz3 := hb3.size
    (try simp at hz3)
    (try have hy3_0 : w.heap.size < w3.heap.size := by omega)
    (try have hy3_1 : w.heap.size + 1 < w3.heap.size := by omega)
    (try have hy3_2 : w.heap.size + 2 < w3.heap.size := by omega)
    (try have hy3_3 : w.heap.size + 3 < w3.heap.size := by omega)
    (try have hx3_0 : w.heap.size ≤ w3.heap.size := by omega)
    (try have hx3_1 : w.heap.size + 1 ≤ w3.heap.size := by omega)
    (try have hx3_2 : w.heap.size + 2 ≤ w3.heap.size := by omega)
    have hp0 := hph 0 (by simp)
    have hp1 := hph 1 (by simp)
    have hp2 := hph 2 (by simp)
    have hp3 := hph 3 (by simp)
    have hp4 := hph 4 (by simp)
    have hp5 := hph 5 (by simp)
    have ha4_5 := hap 4 5 (by simp) (by simp) (by decide) rfl rfl
    have ha5_4 := hap 5 4 (by simp) (by simp) (by decide) rfl rfl
    clear hph hap
    simp only [List.length_cons, List.length_nil, List.take_succ_cons, List.take_zero, List.drop_succ_cons, List.drop_zero, putsFrom, Act.put, List.setIfInBounds_toArray, List.set_cons_zero, List.set_cons_succ, Nat.zero_add, Nat.reduceAdd]
    generalize u 0 = u0 at *
    generalize u 1 = u1 at *
    generalize u 2 = u2 at *
    generalize u 3 = u3 at *
    generalize u 4 = u4 at *
    generalize u 5 = u5 at *
    clear u
    cases hp0
    cases hp1
    cases hp2
    cases hp3
    obtain ⟨B4, rfl, hl4, hg4, hs4⟩ := hp4
    simp only [cellsAre, and_true] at hs4
    obtain ⟨B5, rfl, hl5, hg5, hs5⟩ := hp5
    simp only [cellsAre, and_true] at hs5
    simp only [blkOf, ne_eq, Option.some.injEq] at ha4_5
    simp only [blkOf, ne_eq, Option.some.injEq] at ha5_4
    go_wp2_with (first | (go_at_call 39; (with_reducible refine (cmp_is lo hi lo' hi' a b a' b' 0 _ hl hh hl' hh' C1).mono ?_); rintro e w4 ⟨rfl, hb4⟩; obtain ⟨hc4, hf4⟩ := bcell hb4; (try simp only [World.heap_drewN, World.cell?_drewN, World.frozen?_drewN] at hc4 hf4); have hz4 := hb4.size; (try simp at hz4); (try have hy4_0 : w.heap.size < w4.heap.size := by omega); (try have hy4_1 : w.heap.size + 1 < w4.heap.size := by omega); (try have hy4_2 : w.heap.size + 2 < w4.heap.size := by omega); (try have hy4_3 : w.heap.size + 3 < w4.heap.size := by omega); (try have hx4_0 : w.heap.size ≤ w4.heap.size := by omega); (try have hx4_1 : w.heap.size + 1 ≤ w4.heap.size := by omega); (try have hx4_2 : w.heap.size + 2 ≤ w4.heap.size := by omega)))
    have hq4 : B4 < w4.heap.size := by omega
    have hq5 : B5 < w4.heap.size := by omega
    (refine wp_region_ext (by kernel_rfl) (by kernel_rfl) ?_; (repeat (go_big_quiet_step (first | (go_at_call 40; with_reducible exact Calls.ext_of (refCmp_is l h l' h' 0 H1 H2 _ C3)) | (go_at_call 39; with_reducible exact Calls.ext_of (cmp_is lo' hi' lo hi a' b' a b 0 _ hl' hh' hl hh C2)) | (go_at_call 18; with_reducible exact Calls.ext_of (canon_isS lo hi a b l h _ hl hh Hr)) | (go_at_call 18; with_reducible exact Calls.ext_of (canon_isS lo' hi' a' b' l' h' _ hl' hh' Hr')) | (go_at_call 17; with_reducible exact Calls.ext_of (sameSpan_is l.bits h.bits l'.bits h'.bits false false false false true _ Hs))))); refine wpQuiet_nil ?_; rintro w5 ⟨x5, hx5⟩; have hb5 := x5.b; rw [← hx5] at hb5; clear hx5 x5; obtain ⟨hc5, hf5⟩ := bcell hb5; (try simp only [World.heap_drewN, World.cell?_drewN, World.frozen?_drewN] at hc5 hf5); have hz5 := hb5.size; (try simp at hz5); (try have hy5_0 : w.heap.size < w5.heap.size := by omega); (try have hy5_1 : w.heap.size + 1 < w5.heap.size := by omega); (try have hy5_2 : w.heap.size + 2 < w5.heap.size := by omega); (try have hy5_3 : w.heap.size + 3 < w5.heap.size := by omega); (try have hx5_0 : w.heap.size ≤ w5.heap.size := by omega); (try have hx5_1 : w.heap.size + 1 ≤ w5.heap.size := by omega); (try have hx5_2 : w.heap.size + 2 ≤ w5.heap.size := by omega))
    go_wp2_with fail
    exact bodyPost_ret (v := .bool true) (by simp [results, Try.results8, go_sem, *]) rfl ⟨rfl, by (repeat (first | with_reducible exact Below.refl _ _ | ((with_reducible refine Below.alloc1 ?_ ?_ _); (· first | omega | (simp; done) | (simp; omega))) | (with_reducible refine Below.drew ?_) | (with_reducible refine below_drewN' ?_ _) | ((with_reducible refine Below.setCell1 ?_ ?_ _); (· first | omega | (simp; done) | (simp; omega))) | ((with_reducible refine Below.after (by assumption) ?_ ?_); (· first | omega | (simp; done) | (simp; omega)))))⟩

set_option maxRecDepth 100000 in
theorem order_SSg (lo hi lo' hi' : Nat) (a b a' b' : Bool) (w : World) (hl : lo < 2 ^ 64) (hh : hi < 2 ^ 64) (hl' : lo' < 2 ^ 64) (hh' : hi' < 2 ^ 64) (l h : Key) (H1 : Hid (l.v ≤ h.v)) (Hr : Hid (canonS lo hi a b = some (l, h))) (l' h' : Key) (H2 : Hid (l'.v ≤ h'.v)) (Hr' : Hid (canonS lo' hi' a' b' = some (l', h'))) (Hs : Hid (sameSp l.bits h.bits false false l'.bits h'.bits false false = false)) (C1 : Hid (cmpR (canonS lo hi a b) (canonS lo' hi' a' b') = 1)) (C2 : Hid (cmpR (canonS lo' hi' a' b') (canonS lo hi a b) = (-1))) (C3 : Hid (cmpR (some (l, h)) (some (l', h')) = 1)) :
    Calls Try.prog 8 #[.agg #[.float .f64 lo, .float .f64 hi, .bool a, .bool b], .agg #[.float .f64 lo', .float .f64 hi', .bool a', .bool b']] w (Ret (.bool true) w) := by
  go_enter Try.func8, Try.ntmps8
  go_wp2_with (first | (go_at_call 25; (with_reducible refine (at_any _ _ _).mono ?_); rintro e w1 ⟨rfl, hb1⟩; obtain ⟨hc1, hf1⟩ := bcell hb1; (try simp only [World.heap_drewN, World.cell?_drewN, World.frozen?_drewN] at hc1 hf1); have hz1 := hb1.size; (try simp at hz1); (try have hy1_0 : w.heap.size < w1.heap.size := by omega); (try have hy1_1 : w.heap.size + 1 < w1.heap.size := by omega); (try have hy1_2 : w.heap.size + 2 < w1.heap.size := by omega); (try have hy1_3 : w.heap.size + 3 < w1.heap.size := by omega); (try have hx1_0 : w.heap.size ≤ w1.heap.size := by omega); (try have hx1_1 : w.heap.size + 1 ≤ w1.heap.size := by omega); (try have hx1_2 : w.heap.size + 2 ≤ w1.heap.size := by omega)) | (go_at_call 39; (with_reducible refine (cmp_lits _).mono ?_); rintro e w2 ⟨rfl, hb2⟩; obtain ⟨hc2, hf2⟩ := bcell hb2; (try simp only [World.heap_drewN, World.cell?_drewN, World.frozen?_drewN] at hc2 hf2); have hz2 := hb2.size; (try simp at hz2); (try have hy2_0 : w.heap.size < w2.heap.size := by omega); (try have hy2_1 : w.heap.size + 1 < w2.heap.size := by omega); (try have hy2_2 : w.heap.size + 2 < w2.heap.size := by omega); (try have hy2_3 : w.heap.size + 3 < w2.heap.size := by omega); (try have hx2_0 : w.heap.size ≤ w2.heap.size := by omega); (try have hx2_1 : w.heap.size + 1 ≤ w2.heap.size := by omega); (try have hx2_2 : w.heap.size + 2 ≤ w2.heap.size := by omega)))
  refine wp_region_notes [Note.val (.agg #[.float .f64 lo, .float .f64 hi, .bool a, .bool b]), Note.val (.agg #[.int .u64 (kcode l), .int .u64 (kcode h)]), Note.val (.agg #[.float .f64 lo', .float .f64 hi', .bool a', .bool b']), Note.val (.agg #[.int .u64 (kcode l'), .int .u64 (kcode h')]), Note.ptr [.int .u64 0, .int .u64 0], Note.ptr [.int .u64 0, .int .u64 0]] rfl (by kernel_rfl) (by kernel_rfl) ?_ ?_
  · simp only [List.length_cons, List.length_nil, Nat.reduceAdd, List.take_succ_cons, List.take_zero, StepsN, List.nil_append, List.cons_append]
    refine ⟨?_, ?_, ?_, ?_, ?_, ?_, trivial⟩
    · intro u w3 hb3 hd
      obtain ⟨hc3, hf3⟩ := bcell hb3
      have hz3 := hb3.size
      (try simp at hz3)
      (try have hy3_0 : w.heap.size < w3.heap.size := by omega)
      (try have hy3_1 : w.heap.size + 1 < w3.heap.size := by omega)
      (try have hy3_2 : w.heap.size + 2 < w3.heap.size := by omega)
      (try have hy3_3 : w.heap.size + 3 < w3.heap.size := by omega)
      (try have hx3_0 : w.heap.size ≤ w3.heap.size := by omega)
      (try have hx3_1 : w.heap.size + 1 ≤ w3.heap.size := by omega)
      (try have hx3_2 : w.heap.size + 2 ≤ w3.heap.size := by omega)
      (try (simp [Region.binds, Note.phi, cellsAre] at hd))
      revert hd
      (try simp only [putsFrom, Act.put, List.setIfInBounds_toArray, List.set_cons_zero, List.set_cons_succ, Nat.zero_add, Nat.reduceAdd])
      ((try simp only [forall_exists_index, and_imp]); intros)
      clear u
      go_wp2_with (first | (go_at_call 16; (with_reducible refine (refOf_isS lo hi a b l h _ hl hh Hr).mono ?_); rintro e wy ⟨rfl, hby⟩) | (go_at_call 16; (with_reducible refine (refOf_isS lo' hi' a' b' l' h' _ hl' hh' Hr').mono ?_); rintro e wy ⟨rfl, hby⟩))
      exact ⟨rfl, by (repeat (first | with_reducible exact Below.refl _ _ | ((with_reducible refine Below.alloc1 ?_ ?_ _); (· first | omega | (simp; done) | (simp; omega))) | (with_reducible refine Below.drew ?_) | (with_reducible refine below_drewN' ?_ _) | ((with_reducible refine Below.setCell1 ?_ ?_ _); (· first | omega | (simp; done) | (simp; omega))) | ((with_reducible refine Below.after (by assumption) ?_ ?_); (· first | omega | (simp; done) | (simp; omega))))), rfl⟩
    · intro u w3 hb3 hd
      obtain ⟨hc3, hf3⟩ := bcell hb3
      have hz3 := hb3.size
      (try simp at hz3)
      (try have hy3_0 : w.heap.size < w3.heap.size := by omega)
      (try have hy3_1 : w.heap.size + 1 < w3.heap.size := by omega)
      (try have hy3_2 : w.heap.size + 2 < w3.heap.size := by omega)
      (try have hy3_3 : w.heap.size + 3 < w3.heap.size := by omega)
      (try have hx3_0 : w.heap.size ≤ w3.heap.size := by omega)
      (try have hx3_1 : w.heap.size + 1 ≤ w3.heap.size := by omega)
      (try have hx3_2 : w.heap.size + 2 ≤ w3.heap.size := by omega)
      (try (simp [Region.binds, Note.phi, cellsAre] at hd))
      revert hd
      (try simp only [putsFrom, Act.put, List.setIfInBounds_toArray, List.set_cons_zero, List.set_cons_succ, Nat.zero_add, Nat.reduceAdd])
      generalize u 0 = u0
      ((try simp only [forall_exists_index, and_imp]); intros)
      (try subst u0)
      clear u
      go_wp2_with (first | (go_at_call 16; (with_reducible refine (refOf_isS lo hi a b l h _ hl hh Hr).mono ?_); rintro e wy ⟨rfl, hby⟩) | (go_at_call 16; (with_reducible refine (refOf_isS lo' hi' a' b' l' h' _ hl' hh' Hr').mono ?_); rintro e wy ⟨rfl, hby⟩))
      exact ⟨rfl, by (repeat (first | with_reducible exact Below.refl _ _ | ((with_reducible refine Below.alloc1 ?_ ?_ _); (· first | omega | (simp; done) | (simp; omega))) | (with_reducible refine Below.drew ?_) | (with_reducible refine below_drewN' ?_ _) | ((with_reducible refine Below.setCell1 ?_ ?_ _); (· first | omega | (simp; done) | (simp; omega))) | ((with_reducible refine Below.after (by assumption) ?_ ?_); (· first | omega | (simp; done) | (simp; omega))))), rfl⟩
    · intro u w3 hb3 hd
      obtain ⟨hc3, hf3⟩ := bcell hb3
      have hz3 := hb3.size
      (try simp at hz3)
      (try have hy3_0 : w.heap.size < w3.heap.size := by omega)
      (try have hy3_1 : w.heap.size + 1 < w3.heap.size := by omega)
      (try have hy3_2 : w.heap.size + 2 < w3.heap.size := by omega)
      (try have hy3_3 : w.heap.size + 3 < w3.heap.size := by omega)
      (try have hx3_0 : w.heap.size ≤ w3.heap.size := by omega)
      (try have hx3_1 : w.heap.size + 1 ≤ w3.heap.size := by omega)
      (try have hx3_2 : w.heap.size + 2 ≤ w3.heap.size := by omega)
      (try (simp [Region.binds, Note.phi, cellsAre] at hd))
      revert hd
      (try simp only [putsFrom, Act.put, List.setIfInBounds_toArray, List.set_cons_zero, List.set_cons_succ, Nat.zero_add, Nat.reduceAdd])
      generalize u 0 = u0
      generalize u 1 = u1
      ((try simp only [forall_exists_index, and_imp]); intros)
      (try subst u0)
      (try subst u1)
      clear u
      go_wp2_with (first | (go_at_call 16; (with_reducible refine (refOf_isS lo hi a b l h _ hl hh Hr).mono ?_); rintro e wy ⟨rfl, hby⟩) | (go_at_call 16; (with_reducible refine (refOf_isS lo' hi' a' b' l' h' _ hl' hh' Hr').mono ?_); rintro e wy ⟨rfl, hby⟩))
      exact ⟨rfl, by (repeat (first | with_reducible exact Below.refl _ _ | ((with_reducible refine Below.alloc1 ?_ ?_ _); (· first | omega | (simp; done) | (simp; omega))) | (with_reducible refine Below.drew ?_) | (with_reducible refine below_drewN' ?_ _) | ((with_reducible refine Below.setCell1 ?_ ?_ _); (· first | omega | (simp; done) | (simp; omega))) | ((with_reducible refine Below.after (by assumption) ?_ ?_); (· first | omega | (simp; done) | (simp; omega))))), rfl⟩
    · intro u w3 hb3 hd
      obtain ⟨hc3, hf3⟩ := bcell hb3
      have hz3 := hb3.size
      (try simp at hz3)
      (try have hy3_0 : w.heap.size < w3.heap.size := by omega)
      (try have hy3_1 : w.heap.size + 1 < w3.heap.size := by omega)
      (try have hy3_2 : w.heap.size + 2 < w3.heap.size := by omega)
      (try have hy3_3 : w.heap.size + 3 < w3.heap.size := by omega)
      (try have hx3_0 : w.heap.size ≤ w3.heap.size := by omega)
      (try have hx3_1 : w.heap.size + 1 ≤ w3.heap.size := by omega)
      (try have hx3_2 : w.heap.size + 2 ≤ w3.heap.size := by omega)
      (try (simp [Region.binds, Note.phi, cellsAre] at hd))
      revert hd
      (try simp only [putsFrom, Act.put, List.setIfInBounds_toArray, List.set_cons_zero, List.set_cons_succ, Nat.zero_add, Nat.reduceAdd])
      generalize u 0 = u0
      generalize u 1 = u1
      generalize u 2 = u2
      ((try simp only [forall_exists_index, and_imp]); intros)
      (try subst u0)
      (try subst u1)
      (try subst u2)
      clear u
      go_wp2_with (first | (go_at_call 16; (with_reducible refine (refOf_isS lo hi a b l h _ hl hh Hr).mono ?_); rintro e wy ⟨rfl, hby⟩) | (go_at_call 16; (with_reducible refine (refOf_isS lo' hi' a' b' l' h' _ hl' hh' Hr').mono ?_); rintro e wy ⟨rfl, hby⟩))
      exact ⟨rfl, by (repeat (first | with_reducible exact Below.refl _ _ | ((with_reducible refine Below.alloc1 ?_ ?_ _); (· first | omega | (simp; done) | (simp; omega))) | (with_reducible refine Below.drew ?_) | (with_reducible refine below_drewN' ?_ _) | ((with_reducible refine Below.setCell1 ?_ ?_ _); (· first | omega | (simp; done) | (simp; omega))) | ((with_reducible refine Below.after (by assumption) ?_ ?_); (· first | omega | (simp; done) | (simp; omega))))), rfl⟩
    · intro u w3 hb3 hd
      obtain ⟨hc3, hf3⟩ := bcell hb3
      have hz3 := hb3.size
      (try simp at hz3)
      (try have hy3_0 : w.heap.size < w3.heap.size := by omega)
      (try have hy3_1 : w.heap.size + 1 < w3.heap.size := by omega)
      (try have hy3_2 : w.heap.size + 2 < w3.heap.size := by omega)
      (try have hy3_3 : w.heap.size + 3 < w3.heap.size := by omega)
      (try have hx3_0 : w.heap.size ≤ w3.heap.size := by omega)
      (try have hx3_1 : w.heap.size + 1 ≤ w3.heap.size := by omega)
      (try have hx3_2 : w.heap.size + 2 ≤ w3.heap.size := by omega)
      (try (simp [Region.binds, Note.phi, cellsAre] at hd))
      revert hd
      (try simp only [putsFrom, Act.put, List.setIfInBounds_toArray, List.set_cons_zero, List.set_cons_succ, Nat.zero_add, Nat.reduceAdd])
      generalize u 0 = u0
      generalize u 1 = u1
      generalize u 2 = u2
      generalize u 3 = u3
      ((try simp only [forall_exists_index, and_imp]); intros)
      (try subst u0)
      (try subst u1)
      (try subst u2)
      (try subst u3)
      clear u
      go_wp2_with (first | (go_at_call 16; (with_reducible refine (refOf_isS lo hi a b l h _ hl hh Hr).mono ?_); rintro e wy ⟨rfl, hby⟩) | (go_at_call 16; (with_reducible refine (refOf_isS lo' hi' a' b' l' h' _ hl' hh' Hr').mono ?_); rintro e wy ⟨rfl, hby⟩))
      exact ⟨rfl, by (repeat (first | with_reducible exact Below.refl _ _ | ((with_reducible refine Below.alloc1 ?_ ?_ _); (· first | omega | (simp; done) | (simp; omega))) | (with_reducible refine Below.drew ?_) | (with_reducible refine below_drewN' ?_ _) | ((with_reducible refine Below.setCell1 ?_ ?_ _); (· first | omega | (simp; done) | (simp; omega))) | ((with_reducible refine Below.after (by assumption) ?_ ?_); (· first | omega | (simp; done) | (simp; omega))))), w3.heap.size, rfl, Nat.le_refl _, by simp, by simp [cellsAre, go_sem]⟩
    · intro u w3 hb3 hd
      obtain ⟨hc3, hf3⟩ := bcell hb3
      have hz3 := hb3.size
      (try simp at hz3)
      (try have hy3_0 : w.heap.size < w3.heap.size := by omega)
      (try have hy3_1 : w.heap.size + 1 < w3.heap.size := by omega)
      (try have hy3_2 : w.heap.size + 2 < w3.heap.size := by omega)
      (try have hy3_3 : w.heap.size + 3 < w3.heap.size := by omega)
      (try have hx3_0 : w.heap.size ≤ w3.heap.size := by omega)
      (try have hx3_1 : w.heap.size + 1 ≤ w3.heap.size := by omega)
      (try have hx3_2 : w.heap.size + 2 ≤ w3.heap.size := by omega)
      (try (simp [Region.binds, Note.phi, cellsAre] at hd))
      revert hd
      (try simp only [putsFrom, Act.put, List.setIfInBounds_toArray, List.set_cons_zero, List.set_cons_succ, Nat.zero_add, Nat.reduceAdd])
      generalize u 0 = u0
      generalize u 1 = u1
      generalize u 2 = u2
      generalize u 3 = u3
      generalize u 4 = u4
      ((try simp only [forall_exists_index, and_imp]); intros)
      (try subst u0)
      (try subst u1)
      (try subst u2)
      (try subst u3)
      (try subst u4)
      clear u
      go_wp2_with (first | (go_at_call 16; (with_reducible refine (refOf_isS lo hi a b l h _ hl hh Hr).mono ?_); rintro e wy ⟨rfl, hby⟩) | (go_at_call 16; (with_reducible refine (refOf_isS lo' hi' a' b' l' h' _ hl' hh' Hr').mono ?_); rintro e wy ⟨rfl, hby⟩))
      exact ⟨rfl, by (repeat (first | with_reducible exact Below.refl _ _ | ((with_reducible refine Below.alloc1 ?_ ?_ _); (· first | omega | (simp; done) | (simp; omega))) | (with_reducible refine Below.drew ?_) | (with_reducible refine below_drewN' ?_ _) | ((with_reducible refine Below.setCell1 ?_ ?_ _); (· first | omega | (simp; done) | (simp; omega))) | ((with_reducible refine Below.after (by assumption) ?_ ?_); (· first | omega | (simp; done) | (simp; omega))))), w3.heap.size, rfl, Nat.le_refl _, by simp, by simp [cellsAre, go_sem]⟩
  · intro u w3 hb3 hph hap
    obtain ⟨hc3, hf3⟩ := bcell hb3
    have hz3 := hb3.size
    (try simp at hz3)
    (try have hy3_0 : w.heap.size < w3.heap.size := by omega)
    (try have hy3_1 : w.heap.size + 1 < w3.heap.size := by omega)
    (try have hy3_2 : w.heap.size + 2 < w3.heap.size := by omega)
    (try have hy3_3 : w.heap.size + 3 < w3.heap.size := by omega)
    (try have hx3_0 : w.heap.size ≤ w3.heap.size := by omega)
    (try have hx3_1 : w.heap.size + 1 ≤ w3.heap.size := by omega)
    (try have hx3_2 : w.heap.size + 2 ≤ w3.heap.size := by omega)
    have hp0 := hph 0 (by simp)
    have hp1 := hph 1 (by simp)
    have hp2 := hph 2 (by simp)
    have hp3 := hph 3 (by simp)
    have hp4 := hph 4 (by simp)
    have hp5 := hph 5 (by simp)
    have ha4_5 := hap 4 5 (by simp) (by simp) (by decide) rfl rfl
    have ha5_4 := hap 5 4 (by simp) (by simp) (by decide) rfl rfl
    clear hph hap
    simp only [List.length_cons, List.length_nil, List.take_succ_cons, List.take_zero, List.drop_succ_cons, List.drop_zero, putsFrom, Act.put, List.setIfInBounds_toArray, List.set_cons_zero, List.set_cons_succ, Nat.zero_add, Nat.reduceAdd]
    generalize u 0 = u0 at *
    generalize u 1 = u1 at *
    generalize u 2 = u2 at *
    generalize u 3 = u3 at *
    generalize u 4 = u4 at *
    generalize u 5 = u5 at *
    clear u
    cases hp0
    cases hp1
    cases hp2
    cases hp3
    obtain ⟨B4, rfl, hl4, hg4, hs4⟩ := hp4
    simp only [cellsAre, and_true] at hs4
    obtain ⟨B5, rfl, hl5, hg5, hs5⟩ := hp5
    simp only [cellsAre, and_true] at hs5
    simp only [blkOf, ne_eq, Option.some.injEq] at ha4_5
    simp only [blkOf, ne_eq, Option.some.injEq] at ha5_4
    go_wp2_with (first | (go_at_call 39; (with_reducible refine (cmp_is lo hi lo' hi' a b a' b' 1 _ hl hh hl' hh' C1).mono ?_); rintro e w4 ⟨rfl, hb4⟩; obtain ⟨hc4, hf4⟩ := bcell hb4; (try simp only [World.heap_drewN, World.cell?_drewN, World.frozen?_drewN] at hc4 hf4); have hz4 := hb4.size; (try simp at hz4); (try have hy4_0 : w.heap.size < w4.heap.size := by omega); (try have hy4_1 : w.heap.size + 1 < w4.heap.size := by omega); (try have hy4_2 : w.heap.size + 2 < w4.heap.size := by omega); (try have hy4_3 : w.heap.size + 3 < w4.heap.size := by omega); (try have hx4_0 : w.heap.size ≤ w4.heap.size := by omega); (try have hx4_1 : w.heap.size + 1 ≤ w4.heap.size := by omega); (try have hx4_2 : w.heap.size + 2 ≤ w4.heap.size := by omega)))
    have hq4 : B4 < w4.heap.size := by omega
    have hq5 : B5 < w4.heap.size := by omega
    (refine wp_region_ext (by kernel_rfl) (by kernel_rfl) ?_; (repeat (go_big_quiet_step (first | (go_at_call 40; with_reducible exact Calls.ext_of (refCmp_is l h l' h' 1 H1 H2 _ C3)) | (go_at_call 39; with_reducible exact Calls.ext_of (cmp_is lo' hi' lo hi a' b' a b (-1) _ hl' hh' hl hh C2)) | (go_at_call 18; with_reducible exact Calls.ext_of (canon_isS lo hi a b l h _ hl hh Hr)) | (go_at_call 18; with_reducible exact Calls.ext_of (canon_isS lo' hi' a' b' l' h' _ hl' hh' Hr')) | (go_at_call 17; with_reducible exact Calls.ext_of (sameSpan_is l.bits h.bits l'.bits h'.bits false false false false false _ Hs))))); refine wpQuiet_nil ?_; rintro w5 ⟨x5, hx5⟩; have hb5 := x5.b; rw [← hx5] at hb5; clear hx5 x5; obtain ⟨hc5, hf5⟩ := bcell hb5; (try simp only [World.heap_drewN, World.cell?_drewN, World.frozen?_drewN] at hc5 hf5); have hz5 := hb5.size; (try simp at hz5); (try have hy5_0 : w.heap.size < w5.heap.size := by omega); (try have hy5_1 : w.heap.size + 1 < w5.heap.size := by omega); (try have hy5_2 : w.heap.size + 2 < w5.heap.size := by omega); (try have hy5_3 : w.heap.size + 3 < w5.heap.size := by omega); (try have hx5_0 : w.heap.size ≤ w5.heap.size := by omega); (try have hx5_1 : w.heap.size + 1 ≤ w5.heap.size := by omega); (try have hx5_2 : w.heap.size + 2 ≤ w5.heap.size := by omega))
    go_wp2_with fail
    exact bodyPost_ret (v := .bool true) (by simp [results, Try.results8, go_sem, *]) rfl ⟨rfl, by (repeat (first | with_reducible exact Below.refl _ _ | ((with_reducible refine Below.alloc1 ?_ ?_ _); (· first | omega | (simp; done) | (simp; omega))) | (with_reducible refine Below.drew ?_) | (with_reducible refine below_drewN' ?_ _) | ((with_reducible refine Below.setCell1 ?_ ?_ _); (· first | omega | (simp; done) | (simp; omega))) | ((with_reducible refine Below.after (by assumption) ?_ ?_); (· first | omega | (simp; done) | (simp; omega)))))⟩


set_option maxRecDepth 100000 in
theorem spanOrder_walk (lo hi : Nat) (a b : Bool) (lo' hi' : Nat) (a' b' : Bool) (w : World) (hl : lo < 2 ^ 64) (hh : hi < 2 ^ 64) (hl' : lo' < 2 ^ 64) (hh' : hi' < 2 ^ 64) :
    Calls Try.prog 8 #[.agg #[.float .f64 lo, .float .f64 hi, .bool a, .bool b], .agg #[.float .f64 lo', .float .f64 hi', .bool a', .bool b']] w (Ret (.bool true) w) := by
  rcases hr : canonS lo hi a b with _ | ⟨l, h⟩
  · rcases hr' : canonS lo' hi' a' b' with _ | ⟨l', h'⟩
    · exact order_NN lo hi lo' hi' a b a' b' w hl hh hl' hh' (hid hr) (hid hr') (hid (by simp [sameSp])) (hid (by rw [hr, hr']; rfl)) (hid (by rw [hr, hr']; rfl))
    · exact order_NS lo hi lo' hi' a b a' b' w hl hh hl' hh' (hid hr) l' h' (hid (canonS_le hr')) (hid hr') (hid (by simp [sameSp])) (hid (by rw [hr, hr']; rfl)) (hid (by rw [hr, hr']; rfl))
  · rcases hr' : canonS lo' hi' a' b' with _ | ⟨l', h'⟩
    · exact order_SN lo hi lo' hi' a b a' b' w hl hh hl' hh' l h (hid (canonS_le hr)) (hid hr) (hid hr') (hid (by simp [sameSp])) (hid (by rw [hr, hr']; rfl)) (hid (by rw [hr, hr']; rfl))
    · have e1 := cmpR_ss l h l' h'
      have e2 := cmpR_ss l' h' l h
      have inj : ∀ {x y : Key}, x.v ≠ y.v → x.bits ≠ y.bits := fun {x y} hne e => hne (by rw [← Key.kof_bits x, e, Key.kof_bits])
      have eqv : ∀ {x y : Key}, x.v = y.v → x = y := fun {x y} e => by cases x; cases y; simp only at e; subst e; rfl
      have L : cmpR (some (l, h)) (some (l', h')) = -1 → cmpR (some (l', h')) (some (l, h)) = 1 → sameSp l.bits h.bits false false l'.bits h'.bits false false = false → _ := fun x y z =>
        order_SSl lo hi lo' hi' a b a' b' w hl hh hl' hh' l h (hid (canonS_le hr)) (hid hr) l' h' (hid (canonS_le hr')) (hid hr') (hid z) (hid (by rw [hr, hr']; exact x)) (hid (by rw [hr, hr']; exact y)) (hid x)
      have G : cmpR (some (l, h)) (some (l', h')) = 1 → cmpR (some (l', h')) (some (l, h)) = -1 → sameSp l.bits h.bits false false l'.bits h'.bits false false = false → _ := fun x y z =>
        order_SSg lo hi lo' hi' a b a' b' w hl hh hl' hh' l h (hid (canonS_le hr)) (hid hr) l' h' (hid (canonS_le hr')) (hid hr') (hid z) (hid (by rw [hr, hr']; exact x)) (hid (by rw [hr, hr']; exact y)) (hid x)
      by_cases c1 : l.v < l'.v
      · exact L (by rw [e1, if_pos c1]) (by rw [e2, if_neg (by omega), if_pos c1]) (by have := inj (show l.v ≠ l'.v by omega); simp [sameSp, this])
      · by_cases c2 : l'.v < l.v
        · exact G (by rw [e1, if_neg c1, if_pos c2]) (by rw [e2, if_pos c2]) (by have := inj (show l.v ≠ l'.v by omega); simp [sameSp, this])
        · by_cases c3 : h.v < h'.v
          · exact L (by rw [e1, if_neg c1, if_neg c2, if_pos c3]) (by rw [e2, if_neg c2, if_neg c1, if_neg (by omega), if_pos c3]) (by have := inj (show h.v ≠ h'.v by omega); simp [sameSp, this])
          · by_cases c4 : h'.v < h.v
            · exact G (by rw [e1, if_neg c1, if_neg c2, if_neg c3, if_pos c4]) (by rw [e2, if_neg c2, if_neg c1, if_pos c4]) (by have := inj (show h.v ≠ h'.v by omega); simp [sameSp, this])
            · have x : cmpR (some (l, h)) (some (l', h')) = 0 := by rw [e1, if_neg c1, if_neg c2, if_neg c3, if_neg c4]
              have y : cmpR (some (l', h')) (some (l, h)) = 0 := by rw [e2, if_neg c2, if_neg c1, if_neg c4, if_neg c3]
              have z : sameSp l.bits h.bits false false l'.bits h'.bits false false = true := by
                rw [eqv (show l.v = l'.v by omega), eqv (show h.v = h'.v by omega)]; simp [sameSp]
              exact order_SSe lo hi lo' hi' a b a' b' w hl hh hl' hh' l h (hid (canonS_le hr)) (hid hr) l' h' (hid (canonS_le hr')) (hid hr') (hid z) (hid (by rw [hr, hr']; exact x)) (hid (by rw [hr, hr']; exact y)) (hid x)
end Go.Proofs.Ytibimhjbhincnaa
