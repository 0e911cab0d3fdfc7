/- Several texts as one: LCanonical LCanons LStay0. -/
import Derived.Test.YtgpkfgeflcdbcaaGreatMKH
import Derived.Test.YtgpkfgeflcdbcaaGreatLSm
import Derived.Test.YtgpkfgeflcdbcaaGreatMPD
namespace Go.Proofs.YtgpkfgeflcdbcaaGreat.K
set_option linter.unusedVariables false
open Go.RowKit Fl

theorem cb_lit (n : Nat) (h : n ≤ inf) : (cb n).b = n := by
  show cbits n = n
  rw [cbits_num (klit_nan n h), klit_kof n h, klit_bits]
theorem lit_code (n : Nat) (h : n ≤ inf) : codeOf n = n + 9223372036854775808 := by
  have h1 : codeOf n = kcode (klit n h) := by simp [codeOf, klit_nan n h, klit_kof n h]
  rw [h1]
  unfold kcode klit
  rw [if_pos (by simp only; omega)]
theorem raw_lit (a b : Nat) (ha : a ≤ inf) (hb : b ≤ inf) (h : (klit a ha).v ≤ (klit b hb).v) : N.RK.raw ⟨klit a ha, klit b hb, h⟩ = ⟨a, b, false, false⟩ := by
  show (⟨(klit a ha).bits, (klit b hb).bits, false, false⟩ : SpanV) = _
  rw [klit_bits, klit_bits]
theorem i1 : (4607182418800017408 : Nat) ≤ inf := by unfold inf; omega
theorem i2 : (4611686018427387904 : Nat) ≤ inf := by unfold inf; omega
theorem i3 : (4613937818241073152 : Nat) ≤ inf := by unfold inf; omega
def exV (B : Nat) : SubV := ⟨1, 2, 0, some ⟨B, 0, none⟩, 3, [4613937818241073152, 4607182418800017408, 4613937818241073152], some ⟨B + 1, 0, none⟩, 2, [⟨4607182418800017408, 4611686018427387904, false, true⟩, ⟨4611686018427387904, 4613937818241073152, false, false⟩], some ⟨B + 1 + 1, 0, none⟩, 1, [4611686018427387904]⟩
theorem ex_at (W : World) : (exV W.heap.size).At (((W.alloc (.cells #[.float .f64 4613937818241073152, .float .f64 4607182418800017408, .float .f64 4613937818241073152] 33)).alloc (.cells #[.float .f64 4607182418800017408, .float .f64 4611686018427387904, .bool false, .bool true, .float .f64 4611686018427387904, .float .f64 4613937818241073152, .bool false, .bool false] 50)).alloc (.cells #[.float .f64 4611686018427387904] 33)) := by
  refine ⟨⟨.inr ⟨W.heap.size, 0, rfl, ?_, fun i hi => ?_⟩, fun i hi => ?_, by unfold maxLen; show 3 ≤ _; omega⟩, ⟨.inr ⟨W.heap.size + 1, 0, rfl, ?_, fun i hi => ?_⟩, fun i hi => ?_, by unfold maxLen; show 2 ≤ _; omega⟩, ⟨.inr ⟨W.heap.size + 1 + 1, 0, rfl, ?_, fun i hi => ?_⟩, fun i hi => ?_, by unfold maxLen; show 1 ≤ _; omega⟩⟩
  · simp; omega
  · have : i = 0 ∨ i = 1 ∨ i = 2 := by have : i < 3 := hi; omega
    rcases this with rfl | rfl | rfl <;> (simp only [exV]; go_simp)
  · have : i = 0 ∨ i = 1 ∨ i = 2 := by have : i < 3 := hi; omega
    rcases this with rfl | rfl | rfl <;> simp [exV]
  · simp
  · have : i = 0 ∨ i = 1 := by have : i < 2 := hi; omega
    rcases this with rfl | rfl <;> (simp only [exV]; refine ⟨?_, ?_, ?_, ?_⟩ <;> go_simp)
  · have : i = 0 ∨ i = 1 := by have : i < 2 := hi; omega
    rcases this with rfl | rfl <;> simp [exV]
  · simp
  · have : i = 0 := by have : i < 1 := hi; omega
    subst this; simp only [exV]; go_simp
  · have : i = 0 := by have : i < 1 := hi; omega
    subst this; simp [exV]
theorem ex_rs (B : Nat) : bits (fsort (exV B).rs) = [4607182418800017408, 4613937818241073152] := by
  have e : fsort (exV B).rs = [cb 4607182418800017408, cb 4613937818241073152] := by
    refine strict_ext (fsort_strict _) ?_ (fun x => ?_)
    · refine List.pairwise_cons.2 ⟨fun y hy => ?_, List.pairwise_singleton _ _⟩
      rw [List.mem_singleton.1 hy, cb_code, cb_code, lit_code _ i1, lit_code _ i3]; omega
    · rw [fsort_mem]
      simp only [exV, List.mem_cons, List.not_mem_nil, or_false, exists_eq_or_imp, exists_eq_left]
      constructor
      · rintro (rfl | rfl | rfl) <;> simp
      · rintro (rfl | rfl) <;> simp
  rw [e]
  show [(cb _).b, (cb _).b] = _
  rw [cb_lit _ i1, cb_lit _ i3]
theorem ex_ws (B : Nat) : bits (fsort (exV B).ws) = [4611686018427387904] := by
  have e : fsort (exV B).ws = [cb 4611686018427387904] := by
    refine strict_ext (fsort_strict _) (List.pairwise_singleton _ _) (fun x => ?_)
    rw [fsort_mem]
    simp only [exV, List.mem_cons, List.not_mem_nil, or_false, exists_eq_left]
    exact ⟨fun h => h.symm, fun h => h.symm⟩
  rw [e]
  show [(cb _).b] = _
  rw [cb_lit _ i2]
def k13 : RK := ⟨klit 4607182418800017408 i1, klit 4613937818241073152 i3, by show (4607182418800017408 : Int) ≤ 4613937818241073152; omega⟩
theorem ex_ss (B : Nat) : refAllN [] (N.forms (exV B).ss) = [k13] := by
  obtain ⟨h1, h2⟩ := refAllN_spec (N.forms (exV B).ss) [] List.Pairwise.nil
  refine gapped_ext h1 (List.pairwise_singleton _ _) fun v => ?_
  rw [h2]
  have j2 : (4611686018427387903 : Nat) ≤ inf := by unfold inf; omega
  have e : N.forms (exV B).ss = [⟨klit 4607182418800017408 i1, klit 4611686018427387903 j2, by show (4607182418800017408 : Int) ≤ 4611686018427387903; omega⟩, ⟨klit 4611686018427387904 i2, klit 4613937818241073152 i3, by show (4611686018427387904 : Int) ≤ 4613937818241073152; omega⟩] := by
    unfold N.forms exV
    simp only [List.flatMap_cons, List.flatMap_nil]
    rw [N.fO_some (s := ⟨4607182418800017408, 4611686018427387904, false, true⟩) (l := klit 4607182418800017408 i1) (h := klit 4611686018427387903 j2) (canonS_some (by simp [klit_nan _ i1, klit_nan _ i2]) (by rw [klit_kof _ i1]; simp) (by rw [klit_kof _ i2]; simp [klit]) (by show (4607182418800017408 : Int) ≤ 4611686018427387903; omega)),
      N.fO_some (s := ⟨4611686018427387904, 4613937818241073152, false, false⟩) (canonS_lit 4611686018427387904 4613937818241073152 i2 i3 (by omega))]
    rfl
  rw [e]
  simp only [covL, List.mem_cons, List.not_mem_nil, or_false, exists_eq_or_imp, exists_eq_left, k13, klit, false_and, exists_false, false_or]
  omega
theorem ex_code (B : Nat) : canC (exV B) = 0 := by
  unfold canC
  have e1 : (exV B).ss.any wrongS = false := by
    simp only [exV, List.any_cons, List.any_nil, wrongS]
    rw [klit_nan _ i1, klit_nan _ i2, klit_nan _ i3]; rfl
  have e2 : outChk (exV B) = 0 := by
    unfold outChk
    rw [ex_rs, ex_ws, ex_ss]
    have a1 : ([4607182418800017408, 4613937818241073152] : List Nat).any isNaN = false := by
      simp only [List.any_cons, List.any_nil]
      rw [klit_nan _ i1, klit_nan _ i3]; rfl
    have a2 : ([4611686018427387904] : List Nat).any isNaN = false := by
      simp only [List.any_cons, List.any_nil]
      rw [klit_nan _ i2]; rfl
    rw [a1, a2]; rfl
  rw [e1, e2]; rfl
theorem ex_fits (B : Nat) : Fits (exV B) := ⟨by show 3 ≤ _; omega, by show 2 ≤ _; omega, by show 1 ≤ _; omega⟩

/-- Canon at the example. -/
theorem ex_canon (W : World) :
    Calls Tryz.prog 12 #[.agg #[.int .i64 1, .int .i64 2, .int .i64 0, .slice (some ⟨W.heap.size, 0, none⟩) 3 3, .slice (some ⟨W.heap.size + 1, 0, none⟩) 2 2, .slice (some ⟨W.heap.size + 1 + 1, 0, none⟩) 1 1]] (((W.alloc (.cells #[.float .f64 4613937818241073152, .float .f64 4607182418800017408, .float .f64 4613937818241073152] 33)).alloc (.cells #[.float .f64 4607182418800017408, .float .f64 4611686018427387904, .bool false, .bool true, .float .f64 4611686018427387904, .float .f64 4613937818241073152, .bool false, .bool false] 50)).alloc (.cells #[.float .f64 4611686018427387904] 33))
      fun e w' => ∃ a1 a2 a3 d1 d2 d3, e = .returned (.tuple #[.agg #[.int .i64 1, .int .i64 2, .int .i64 0, .slice a1 2 d1, .slice a2 1 d2, .slice a3 1 d3], .int .i64 0]) ∧ FAt w' a1 [4607182418800017408, 4613937818241073152] ∧ SAt w' a2 [⟨4607182418800017408, 4613937818241073152, false, false⟩] ∧ FAt w' a3 [4611686018427387904] ∧ Below W.heap.size W w' := by
  have h := canon_any (exV W.heap.size) _ (ex_at W) (ex_fits _)
  rw [ex_code, ex_rs, ex_ws, ex_ss] at h
  refine h.mono fun e w' ⟨hb, hc⟩ => ?_
  rcases hc with ⟨_, v1, v2, v3, rfl, o1, o2, o3⟩ | ⟨hc, _⟩
  · obtain ⟨⟨a1, d1, rfl⟩, p1⟩ := o1
    obtain ⟨⟨a2, d2, rfl⟩, p2⟩ := o2
    obtain ⟨⟨a3, d3, rfl⟩, p3⟩ := o3
    have l1 : ∀ x ∈ ([4607182418800017408, 4613937818241073152] : List Nat), x < 2 ^ 64 := by intro x hx; simp at hx; rcases hx with rfl | rfl <;> omega
    have l3 : ∀ x ∈ ([4611686018427387904] : List Nat), x < 2 ^ 64 := by intro x hx; simp at hx; subst hx; omega
    have s2 := N.own_sat p2 (by show 1 ≤ _; omega)
    rw [show [k13].map N.RK.raw = [⟨4607182418800017408, 4613937818241073152, false, false⟩] from congrArg (fun z => [z]) (raw_lit _ _ _ _ _)] at s2
    refine ⟨a1, a2, a3, d1, d2, d3, rfl, own_fat rfl p1 (by show 2 ≤ _; omega) l1, s2, own_fat rfl p3 (by show 1 ≤ _; omega) l3, ?_⟩
    have hA : Below W.heap.size W (((W.alloc (.cells #[.float .f64 4613937818241073152, .float .f64 4607182418800017408, .float .f64 4613937818241073152] 33)).alloc (.cells #[.float .f64 4607182418800017408, .float .f64 4611686018427387904, .bool false, .bool true, .float .f64 4611686018427387904, .float .f64 4613937818241073152, .bool false, .bool false] 50)).alloc (.cells #[.float .f64 4611686018427387904] 33)) := by exact below_auto
    exact hA.trans (hb.mono hA.size)
  · exact absurd rfl hc
end Go.Proofs.YtgpkfgeflcdbcaaGreat.K
namespace Go.Proofs.YtgpkfgeflcdbcaaGreat.K
set_option linter.unusedVariables false
set_option linter.unusedSimpArgs false
open Go.RowKit Fl

/-- The small submission. -/
def SmallRow (v : Value) (w : World) : Prop := ∃ B : Nat, v = .agg #[.int .i64 1, .int .i64 2, .int .i64 0, .slice (some ⟨B + 1, 0, none⟩) 2 2, .slice (some ⟨B + 1 + 1, 0, none⟩) 1 1, .slice (some ⟨B + 1 + 1 + 1, 0, none⟩) 1 1] ∧ (smallV B).At w
theorem SmallRow.below {v : Value} {w w' : World} (h : SmallRow v w) (hb : Below w.heap.size w w') : SmallRow v w' := by
  obtain ⟨B, h1, h2⟩ := h
  exact ⟨B, h1, h2.below hb⟩
theorem small_row (w : World) : Calls Tryz.prog 25 #[] w fun e w' => ∃ v, e = .returned v ∧ SmallRow v w' ∧ Below w.heap.size w w' :=
  (small_any w).mono fun e w' ⟨B, h1, h2, h3⟩ => ⟨_, h1, ⟨B, rfl, h2⟩, h3⟩
theorem small_same (a1 a2 a3 : Option Addr) (d1 d2 d3 : Nat) (v : Value) (W : World) (f1 : FAt W a1 [4607182418800017408, 4613937818241073152]) (s2 : SAt W a2 [⟨4607182418800017408, 4613937818241073152, false, false⟩]) (f3 : FAt W a3 [4611686018427387904]) (hv : SmallRow v W) :
    Calls Tryz.prog 14 #[.agg #[.int .i64 1, .int .i64 2, .int .i64 0, .slice a1 2 d1, .slice a2 1 d2, .slice a3 1 d3], v] W (Ret (.bool true) W) := by
  obtain ⟨B, rfl, hB⟩ := hv
  exact refSame04_true 1 2 0 2 1 1 a1 (some ⟨B + 1, 0, none⟩) a2 (some ⟨B + 1 + 1, 0, none⟩) a3 (some ⟨B + 1 + 1 + 1, 0, none⟩) d1 2 d2 1 d3 1 W
    (fun U hb => sameKeysF _ _ _ _ 2 2 _ (smallV B).rs true U rfl rfl (f1.below hb) (hB.r.below hb) (by simp [smallV]))
    (fun U hb => sameKeysF _ _ _ _ 1 1 _ (smallV B).ws true U rfl rfl (f3.below hb) (hB.w.below hb) (by simp [smallV]))
    (fun U hb => N.refSameS_any _ _ _ _ 1 1 _ (smallV B).ss true U rfl rfl (s2.below hb) (hB.s.below hb) (by simp [smallV]))

set_option maxRecDepth 100000 in
theorem canonical_any (w : World) : Calls Tryz.prog 11 #[] w (Ret (.bool true) w) := by
  go_enter Tryz.func11, Tryz.ntmps11
  go_wp2_with fail
  refine (ex_canon w).mono ?_
  rintro e w1 ⟨a1, a2, a3, d1, d2, d3, rfl, f1, s2, f3, hb1⟩
  have hz1 := hb1.size
  go_upto_region 2 with fail
  generalize hW5 : World.alloc _ _ = w5
  have hC5 : Below w1.heap.size w1 w5 := by rw [← hW5]; exact below_auto
  have hS5 : w1.heap.size < w5.heap.size := by rw [← hW5]; simp
  have c0 : w5.cell? ⟨w1.heap.size, 0, none⟩ = some (.int .i64 1) := by rw [← hW5]; simp [go_sem]
  have c1 : w5.cell? ⟨w1.heap.size, 1, none⟩ = some (.int .i64 2) := by rw [← hW5]; simp [go_sem]
  have c2 : w5.cell? ⟨w1.heap.size, 2, none⟩ = some (.int .i64 0) := by rw [← hW5]; simp [go_sem]
  have c3 : w5.cell? ⟨w1.heap.size, 3, none⟩ = some (.slice a1 2 d1) := by rw [← hW5]; simp [go_sem]
  have c4 : w5.cell? ⟨w1.heap.size, 4, none⟩ = some (.slice a2 1 d2) := by rw [← hW5]; simp [go_sem]
  have c5 : w5.cell? ⟨w1.heap.size, 5, none⟩ = some (.slice a3 1 d3) := by rw [← hW5]; simp [go_sem]
  clear hW5
  have F1 := f1.below hC5; have S2 := s2.below hC5; have F3 := f3.below hC5
  have HS := fun (v : Value) (W : World) (hv : SmallRow v W) (hb : Below w5.heap.size w5 W) => small_same a1 a2 a3 d1 d2 d3 v W (F1.below hb) (S2.below hb) (F3.below hb) hv
  clear f1 s2 f3 F1 S2 F3
  refine wp_region_notesG [Note.val (.int .i64 0), Note.val (.bool true), Note.val (.bool true), Note.val (.agg #[.int .i64 1, .int .i64 2, .int .i64 0, .slice a1 2 d1, .slice a2 1 d2, .slice a3 1 d3]), Note.fits (SmallRow) (fun _ _ _ h hb => h.below hb), Note.val (.bool true), Note.val (.bool true), Note.val (.bool true)] rfl (by kernel_rfl) (by kernel_rfl) ?_ ?_
  · simp only [List.length_cons, List.length_nil, Nat.reduceAdd, List.take_succ_cons, List.take_zero, StepsG, List.nil_append, List.cons_append]
    refine ⟨?_, ?_, ?_, ?_, ?_, ?_, ?_, ?_, trivial⟩
    · (first | refine StepG.run rfl ?_ | refine StepG.on rfl rfl ?_)
      (try dsimp only)
      intro u w6 hb6 hd
      obtain ⟨hc6, hf6⟩ := bcell hb6
      have hz6 := hb6.size
      (try (simp [Region.binds, Note.phi] at hd))
      (try simp only [putsFrom, Act.put, List.setIfInBounds_toArray, List.set_cons_zero, List.set_cons_succ, Nat.zero_add, Nat.reduceAdd])
      (try simp only [hd])
      revert hd
      ((try simp only [and_imp]); intros)
      go_wp2_with fail
      exact ⟨rfl, Below.refl _ _, rfl⟩
    · (first | refine StepG.run rfl ?_ | refine StepG.on rfl rfl ?_)
      (try dsimp only)
      intro u w6 hb6 hd
      obtain ⟨hc6, hf6⟩ := bcell hb6
      have hz6 := hb6.size
      (try (simp [Region.binds, Note.phi] at hd))
      (try simp only [putsFrom, Act.put, List.setIfInBounds_toArray, List.set_cons_zero, List.set_cons_succ, Nat.zero_add, Nat.reduceAdd])
      (try simp only [hd])
      revert hd
      ((try simp only [and_imp]); intros)
      go_wp2_with fail
      exact ⟨rfl, Below.refl _ _, rfl⟩
    · (first | refine StepG.run rfl ?_ | refine StepG.on rfl rfl ?_)
      (try dsimp only)
      intro u w6 hb6 hd
      obtain ⟨hc6, hf6⟩ := bcell hb6
      have hz6 := hb6.size
      (try (simp [Region.binds, Note.phi] at hd))
      (try simp only [putsFrom, Act.put, List.setIfInBounds_toArray, List.set_cons_zero, List.set_cons_succ, Nat.zero_add, Nat.reduceAdd])
      (try simp only [hd])
      revert hd
      ((try simp only [and_imp]); intros)
      go_wp2_with fail
      exact ⟨rfl, Below.refl _ _, rfl⟩
    · (first | refine StepG.run rfl ?_ | refine StepG.on rfl rfl ?_)
      (try dsimp only)
      intro u w6 hb6 hd
      obtain ⟨hc6, hf6⟩ := bcell hb6
      have hz6 := hb6.size
      (try (simp [Region.binds, Note.phi] at hd))
      (try simp only [putsFrom, Act.put, List.setIfInBounds_toArray, List.set_cons_zero, List.set_cons_succ, Nat.zero_add, Nat.reduceAdd])
      (try simp only [hd])
      revert hd
      ((try simp only [and_imp]); intros)
      go_wp2_with fail
      exact ⟨rfl, Below.refl _ _, rfl⟩
    · (first | refine StepG.run rfl ?_ | refine StepG.on rfl rfl ?_)
      (try dsimp only)
      intro u w6 hb6 hd
      obtain ⟨hc6, hf6⟩ := bcell hb6
      have hz6 := hb6.size
      (try (simp [Region.binds, Note.phi] at hd))
      (try simp only [putsFrom, Act.put, List.setIfInBounds_toArray, List.set_cons_zero, List.set_cons_succ, Nat.zero_add, Nat.reduceAdd])
      (try simp only [hd])
      revert hd
      ((try simp only [and_imp]); intros)
      go_wp2_with (go_at_call 25; (with_reducible refine (small_row _).mono ?_); rintro e wy ⟨vy, rfl, hpy, hby⟩)
      exact ⟨rfl, by exact below_auto, by assumption⟩
    · (first | refine StepG.run rfl ?_ | refine StepG.on rfl rfl ?_)
      (try dsimp only)
      intro u w6 hb6 hd
      obtain ⟨hc6, hf6⟩ := bcell hb6
      have hz6 := hb6.size
      (try (simp [Region.binds, Note.phi] at hd))
      (try simp only [putsFrom, Act.put, List.setIfInBounds_toArray, List.set_cons_zero, List.set_cons_succ, Nat.zero_add, Nat.reduceAdd])
      (try simp only [hd])
      revert hd
      ((try simp only [and_imp]); intros)
      go_wp2_with (go_at_call 14; (with_reducible refine (HS _ _ (by assumption) (by exact below_auto)).mono ?_); rintro e wy ⟨rfl, hby⟩)
      exact ⟨rfl, by exact below_auto, rfl⟩
    · (first | refine StepG.run rfl ?_ | refine StepG.on rfl rfl ?_)
      (try dsimp only)
      intro u w6 hb6 hd
      obtain ⟨hc6, hf6⟩ := bcell hb6
      have hz6 := hb6.size
      (try (simp [Region.binds, Note.phi] at hd))
      (try simp only [putsFrom, Act.put, List.setIfInBounds_toArray, List.set_cons_zero, List.set_cons_succ, Nat.zero_add, Nat.reduceAdd])
      (try simp only [hd])
      revert hd
      ((try simp only [and_imp]); intros)
      go_wp2_with fail
      exact ⟨rfl, Below.refl _ _, rfl⟩
    · (first | refine StepG.run rfl ?_ | refine StepG.on rfl rfl ?_)
      (try dsimp only)
      intro u w6 hb6 hd
      obtain ⟨hc6, hf6⟩ := bcell hb6
      have hz6 := hb6.size
      (try (simp [Region.binds, Note.phi] at hd))
      (try simp only [putsFrom, Act.put, List.setIfInBounds_toArray, List.set_cons_zero, List.set_cons_succ, Nat.zero_add, Nat.reduceAdd])
      (try simp only [hd])
      revert hd
      ((try simp only [and_imp]); intros)
      go_wp2_with fail
      exact ⟨rfl, Below.refl _ _, rfl⟩
  · intro u w6 hb6 hph hap
    obtain ⟨hc6, hf6⟩ := bcell hb6
    have hz6 := hb6.size
    have hp0 := hph 0 (by simp)
    have hp1 := hph 1 (by simp)
    have hp2 := hph 2 (by simp)
    have hp3 := hph 3 (by simp)
    have hp4 := hph 4 (by simp)
    have hp5 := hph 5 (by simp)
    have hp6 := hph 6 (by simp)
    have hp7 := hph 7 (by simp)
    clear hph hap
    simp only [List.length_cons, List.length_nil, List.take_succ_cons, List.take_zero, List.drop_succ_cons, List.drop_zero, putsFrom, Act.put, List.setIfInBounds_toArray, List.set_cons_zero, List.set_cons_succ, Nat.zero_add, Nat.reduceAdd]
    generalize u 0 = u0 at *
    cases hp0
    generalize u 1 = u1 at *
    cases hp1
    generalize u 2 = u2 at *
    cases hp2
    generalize u 3 = u3 at *
    cases hp3
    generalize u 4 = u4 at *
    have hp4 : (SmallRow) u4 w6 := hp4
    generalize u 5 = u5 at *
    cases hp5
    generalize u 6 = u6 at *
    cases hp6
    generalize u 7 = u7 at *
    cases hp7
    clear u
    go_wp2_with fail
    go_ret
    exact ⟨rfl, hb1.trans ((hC5.trans (hb6.mono hC5.size)).mono hz1)⟩

/-- What Canon hands back, as numbers. -/
structure CanO where
  s0 : Int
  s1 : Int
  s2 : Int
  rs : List Nat
  ss : List SpanV
  ws : List Nat
def canO (x : SubV) : CanO := if canC x = 0 then ⟨x.s0, x.s1, x.s2, bits (fsort x.rs), (refAllN [] (N.forms x.ss)).map N.RK.raw, bits (fsort x.ws)⟩ else ⟨0, 0, 0, [], [], []⟩
def CanAt (base : Nat) (o : CanO) (a1 a2 a3 : Option Addr) (d1 d2 d3 : Nat) (w : World) : Prop := w.ownsRow base 33 1 (.slice a1 o.rs.length d1) o.rs.length (fCells o.rs) ∧ FAt w a1 o.rs ∧ SAt w a2 o.ss ∧ FAt w a3 o.ws
theorem CanAt.below {base : Nat} {o : CanO} {a1 a2 a3 : Option Addr} {d1 d2 d3 : Nat} {w w' : World} (h : CanAt base o a1 a2 a3 d1 d2 d3 w) (hb : Below w.heap.size w w') : CanAt base o a1 a2 a3 d1 d2 d3 w' :=
  ⟨h.1.kept (grown_of_below hb) (by cases (Value.slice a1 o.rs.length d1).ownBlock <;> simp), h.2.1.below hb, h.2.2.1.below hb, h.2.2.2.below hb⟩
def CanO.v (o : CanO) (a1 a2 a3 : Option Addr) (d1 d2 d3 : Nat) : Value := .agg #[.int .i64 o.s0, .int .i64 o.s1, .int .i64 o.s2, .slice a1 o.rs.length d1, .slice a2 o.ss.length d2, .slice a3 o.ws.length d3]
theorem canRet_o {x : SubV} {w w' : World} {e : Ending} (hf : Fits x) (h : CanRet w x.s0 x.s1 x.s2 (bits (fsort x.rs)) (bits (fsort x.ws)) (refAllN [] (N.forms x.ss)) (canC x) e w') :
    ∃ a1 a2 a3 d1 d2 d3, e = .returned (.tuple #[.agg #[.int .i64 (canO x).s0, .int .i64 (canO x).s1, .int .i64 (canO x).s2, .slice a1 (canO x).rs.length d1, .slice a2 (canO x).ss.length d2, .slice a3 (canO x).ws.length d3], .int .i64 (canC x)]) ∧ CanAt w.heap.size (canO x) a1 a2 a3 d1 d2 d3 w' ∧ Below w.heap.size w w' := by
  obtain ⟨hb, h⟩ := h
  rcases h with ⟨h0, v1, v2, v3, he, h1, h2, h3⟩ | ⟨h0, he⟩
  · obtain ⟨⟨a1, d1, rfl⟩, _⟩ := id h1
    obtain ⟨⟨a2, d2, rfl⟩, _⟩ := id h2
    obtain ⟨⟨a3, d3, rfl⟩, _⟩ := id h3
    have ho := out_at hf h1 h2 h3
    refine ⟨a1, a2, a3, d1, d2, d3, ?_, ?_, hb⟩
    · rw [he]; unfold canO; rw [if_pos h0, h0]; simp only [List.length_map]
    · unfold canO; rw [if_pos h0]
      exact ⟨h1.2, ho.r, ho.s, ho.w⟩
  · refine ⟨none, none, none, 0, 0, 0, ?_, ?_, hb⟩
    · rw [he]; unfold canO; rw [if_neg h0]; rfl
    · unfold canO; rw [if_neg h0]
      exact ⟨⟨rfl, .inl ⟨rfl, rfl⟩⟩, ⟨.inl rfl, fun i hi => absurd hi (Nat.not_lt_zero _), Nat.zero_le _⟩, ⟨.inl rfl, fun i hi => absurd hi (Nat.not_lt_zero _), Nat.zero_le _⟩, ⟨.inl rfl, fun i hi => absurd hi (Nat.not_lt_zero _), Nat.zero_le _⟩⟩
end Go.Proofs.YtgpkfgeflcdbcaaGreat.K
namespace Go.Proofs.YtgpkfgeflcdbcaaGreat.P
set_option linter.unusedVariables false
open Go.RowKit Fl

theorem feq_cb (key b : Nat) : feq key (cbits b) = feq key b := by
  unfold feq
  cases h : isNaN b with
  | true => rw [cbits_nan h, K.nan_nan]; simp
  | false => rw [cbits_num h, Key.bits_nan, Key.kof_bits]
theorem any_fsort (xs : List Nat) (key : Nat) : ((K.bits (K.fsort xs)).any fun k => feq key k) = xs.any fun k => feq key k := by
  rw [Bool.eq_iff_iff, List.any_eq_true, List.any_eq_true]
  constructor
  · rintro ⟨y, hy, h⟩
    obtain ⟨c, hc, rfl⟩ := List.mem_map.1 hy
    obtain ⟨b, hb, rfl⟩ := (K.fsort_mem xs c).1 hc
    exact ⟨b, hb, (feq_cb key b).symm.trans h⟩
  · rintro ⟨b, hb, h⟩
    exact ⟨(K.cb b).b, List.mem_map.2 ⟨_, (K.fsort_mem xs _).2 ⟨b, hb, rfl⟩, rfl⟩, (feq_cb key b).trans h⟩
theorem hasP_some (l h : Key) (key : Nat) : hasB (some (l, h)) key = (fle l.bits key && fle key h.bits) := rfl
theorem hasP_nan (r : Rg) {key : Nat} (h : isNaN key = true) : hasB r key = false := by
  rcases r with _ | ⟨l, h'⟩
  · rfl
  · rw [hasP_some]; unfold fle; rw [h]; simp
theorem hasP_num (l h : Key) {key : Nat} (hn : isNaN key = false) : hasB (some (l, h)) key = decide (l.v ≤ (kof key).v ∧ (kof key).v ≤ h.v) := by
  rw [hasP_some]; unfold fle; rw [hn, Key.bits_nan, Key.bits_nan, Key.kof_bits, Key.kof_bits, Bool.eq_iff_iff]; simp
def someP (ss : List SpanV) (key : Nat) : Bool := ss.any fun s => hasB s.rg key
theorem someP_nan (ss : List SpanV) {key : Nat} (h : isNaN key = true) : someP ss key = false := by
  unfold someP
  rw [List.any_eq_false]
  intro s _
  rw [hasP_nan _ h]; simp
theorem someP_cov (ss : List SpanV) {key : Nat} (h : isNaN key = false) : someP ss key = true ↔ covL (N.forms ss) (kof key).v := by
  unfold someP
  rw [List.any_eq_true]
  constructor
  · rintro ⟨s, hs, hb⟩
    rcases hr : s.rg with _ | ⟨l, h'⟩
    · rw [hr] at hb; cases hb
    · rw [hr, hasP_num _ _ h, decide_eq_true_eq] at hb
      exact ⟨⟨l, h', canonS_le hr⟩, List.mem_flatMap.2 ⟨s, hs, by rw [N.fO_some hr]; simp⟩, hb⟩
  · rintro ⟨x, hx, hb⟩
    obtain ⟨s, hs, hxs⟩ := List.mem_flatMap.1 hx
    refine ⟨s, hs, ?_⟩
    rcases hr : s.rg with _ | ⟨l, h'⟩
    · rw [N.fO_none hr] at hxs; cases hxs
    · rw [N.fO_some hr, List.mem_singleton] at hxs
      subst hxs
      rw [hasP_num _ _ h, decide_eq_true_eq]
      exact hb
theorem covP_or (l : List RK) (v : Int) : covL [] v ∨ covL l v ↔ covL l v := ⟨fun h => h.resolve_left (covL_nil v), .inr⟩
theorem normP_cov (l : List RK) (v : Int) : covL (refAllN [] l) v ↔ covL l v := by
  rw [(refAllN_spec l [] List.Pairwise.nil).2 v, covP_or]
theorem normP_gapped (l : List RK) : gapped (refAllN [] l) := (refAllN_spec l [] List.Pairwise.nil).1
theorem any_norm (ss : List SpanV) (key : Nat) : someP ((refAllN [] (N.forms ss)).map N.RK.raw) key = someP ss key := by
  cases hn : isNaN key
  · rw [Bool.eq_iff_iff, someP_cov _ hn, someP_cov _ hn, N.raw_forms, normP_cov]
  · rw [someP_nan _ hn, someP_nan _ hn]
/-- What Canon makes of a submission. -/
def normV (x : SubV) : SubV := K.outV x none none none 0 0 0
theorem norm_right {x : SubV} (h : K.SubV.check x = 0) : SameD (normV x) x := by
  obtain ⟨_, _, h1, h2, h3⟩ := check0 h
  unfold K.ordF at h1 h2
  unfold K.ordS at h3
  rw [decide_eq_true_eq] at h1 h2 h3
  exact ⟨rfl, rfl, rfl, h1.symm, h3.symm, h2.symm⟩
theorem canC_out {x : SubV} (h : K.canC x = 0) : K.outChk x = 0 ∧ x.ss.any K.wrongS = false := by
  unfold K.canC K.canI at h
  cases hw : x.ss.any K.wrongS with
  | false =>
    rw [hw] at h
    simp only [Bool.false_eq_true, false_and, if_false] at h
    exact ⟨h, rfl⟩
  | true =>
    rw [hw] at h
    by_cases h0 : K.outChk x = 0
    · rw [if_pos ⟨rfl, h0⟩] at h; exact absurd h (by decide)
    · rw [if_neg (fun h => h0 h.2)] at h; exact absurd h h0
theorem norm_check {x : SubV} (h : K.canC x = 0) : K.SubV.check (normV x) = 0 := by
  unfold normV; rw [K.check_out]; exact (canC_out h).1
theorem check_canC {x : SubV} (h : K.SubV.check x = 0) : K.canC x = 0 := by
  have h1 : K.outChk x = 0 := by
    have := (norm_right h).check
    unfold normV at this
    rw [K.check_out, h] at this; exact this
  obtain ⟨_, _, _, _, h3⟩ := check0 h
  have hw : x.ss.any K.wrongS = false := by
    unfold K.ordS at h3
    rw [decide_eq_true_eq] at h3
    rw [h3, List.any_eq_false]
    intro s hs
    obtain ⟨k, _, rfl⟩ := List.mem_map.1 hs
    show ¬ (!(!isNaN k.lo.bits && !isNaN k.hi.bits)) = true
    rw [Key.bits_nan, Key.bits_nan]; decide
  unfold K.canC K.canI
  rw [hw, h1]; rfl
theorem norm_reads (x : SubV) (key : Nat) : (normV x).reads key = x.reads key := by
  unfold SubV.reads
  have h1 := any_fsort x.rs key
  have h2 := any_norm x.ss key
  unfold someP at h2
  exact congr (congrArg or h1) h2
theorem norm_writes (x : SubV) (key : Nat) : (normV x).writes key = x.writes key := any_fsort x.ws key
theorem right_fits {x : SubV} (h : K.SubV.check x = 0) : K.Fits x := by
  obtain ⟨_, h2, _⟩ := check0 h
  obtain ⟨l1, l2, l3⟩ := K.mb_false h2
  exact ⟨by omega, by omega, by omega⟩
theorem SameD.reads {x y : SubV} (h : SameD x y) (key : Nat) : x.reads key = y.reads key := by unfold SubV.reads; rw [h.rs, h.ss]
theorem SameD.writes {x y : SubV} (h : SameD x y) (key : Nat) : x.writes key = y.writes key := by unfold SubV.writes; rw [h.ws]
/-- What Canon hands back, as it lies. -/
def CanonY (x : SubV) (w : World) (e : Ending) (w' : World) : Prop := ∃ y : SubV, e = .returned (.tuple #[.agg #[.int .i64 y.s0, .int .i64 y.s1, .int .i64 y.s2, .slice y.ra y.rs.length y.rc, .slice y.sa y.ss.length y.sc, .slice y.wa y.ws.length y.wc], .int .i64 (K.canC x)]) ∧ y.At w' ∧ Below w.heap.size w w' ∧ (K.canC x = 0 → SameD y (normV x))
theorem canon_y (x : SubV) (w : World) (h : x.At w) (hf : K.Fits x) :
    Calls Tryz.prog 12 #[.agg #[.int .i64 x.s0, .int .i64 x.s1, .int .i64 x.s2, .slice x.ra x.rs.length x.rc, .slice x.sa x.ss.length x.sc, .slice x.wa x.ws.length x.wc]] w (CanonY x w) := by
  refine (K.canon_any x w h hf).mono fun e w' h3 => ?_
  obtain ⟨a1, a2, a3, d1, d2, d3, he, ⟨_, r, s, t⟩, hb⟩ := K.canRet_o hf h3
  refine ⟨⟨(K.canO x).s0, (K.canO x).s1, (K.canO x).s2, a1, d1, (K.canO x).rs, a2, d2, (K.canO x).ss, a3, d3, (K.canO x).ws⟩, he, ⟨r, s, t⟩, hb, fun h0 => ?_⟩
  unfold K.canO
  rw [if_pos h0]
  exact ⟨rfl, rfl, rfl, rfl, rfl, rfl⟩
/-! The other way round, and doubled. -/
def dbl {α : Type} (l : List α) : List α := l.reverse.flatMap fun x => [x, x]
theorem dbl_mem {α : Type} {l : List α} {x : α} : x ∈ dbl l ↔ x ∈ l := by
  unfold dbl
  rw [List.mem_flatMap]
  constructor
  · rintro ⟨y, hy, h⟩
    have : x = y := by simpa using h
    rw [this]; exact List.mem_reverse.1 hy
  · exact fun h => ⟨x, List.mem_reverse.2 h, by simp⟩
theorem dbl_fsort (xs : List Nat) : K.fsort (dbl xs) = K.fsort xs := by
  refine K.strict_ext (K.fsort_strict _) (K.fsort_strict _) fun x => ?_
  rw [K.fsort_mem, K.fsort_mem]
  exact ⟨fun ⟨b, hb, h⟩ => ⟨b, dbl_mem.1 hb, h⟩, fun ⟨b, hb, h⟩ => ⟨b, dbl_mem.2 hb, h⟩⟩
theorem dbl_norm (ss : List SpanV) : refAllN [] (N.forms (dbl ss)) = refAllN [] (N.forms ss) := by
  refine gapped_ext (normP_gapped _) (normP_gapped _) fun v => ?_
  rw [normP_cov, normP_cov]
  refine covL_perm (fun x => ?_) v
  unfold N.forms
  rw [List.mem_flatMap, List.mem_flatMap]
  exact ⟨fun ⟨s, hs, h⟩ => ⟨s, dbl_mem.1 hs, h⟩, fun ⟨s, hs, h⟩ => ⟨s, dbl_mem.2 hs, h⟩⟩
theorem dbl_any (ss : List SpanV) (f : SpanV → Bool) : (dbl ss).any f = ss.any f := by
  rw [Bool.eq_iff_iff, List.any_eq_true, List.any_eq_true]
  exact ⟨fun ⟨b, hb, h⟩ => ⟨b, dbl_mem.1 hb, h⟩, fun ⟨b, hb, h⟩ => ⟨b, dbl_mem.2 hb, h⟩⟩
theorem turn_same {x y : SubV} (h0 : y.s0 = x.s0) (h1 : y.s1 = x.s1) (h2 : y.s2 = x.s2) (hr : y.rs = dbl x.rs) (hs : y.ss = dbl x.ss) (hw : y.ws = dbl x.ws) : K.canC y = K.canC x ∧ SameD (normV y) (normV x) := by
  refine ⟨?_, ⟨h0, h1, h2, ?_, ?_, ?_⟩⟩
  · unfold K.canC K.outChk K.SubV.nb
    rw [hr, hs, hw, h0, h1, h2, dbl_any, dbl_norm, dbl_fsort, dbl_fsort]
  · show K.bits (K.fsort y.rs) = K.bits (K.fsort x.rs); rw [hr, dbl_fsort]
  · show (refAllN [] (N.forms y.ss)).map N.RK.raw = (refAllN [] (N.forms x.ss)).map N.RK.raw; rw [hs, dbl_norm]
  · show K.bits (K.fsort y.ws) = K.bits (K.fsort x.ws); rw [hw, dbl_fsort]
end Go.Proofs.YtgpkfgeflcdbcaaGreat.P
