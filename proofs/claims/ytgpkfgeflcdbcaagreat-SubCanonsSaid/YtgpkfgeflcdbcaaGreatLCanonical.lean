/- The statements' example of Canon. -/
import Derived.Test.YtgpkfgeflcdbcaaGreatKJ
import Derived.Test.YtgpkfgeflcdbcaaGreatLSm
namespace Go.Proofs.YtgpkfgeflcdbcaaGreat.K
set_option linter.unusedVariables false
open Go.RowKit Fl

theorem cb_lit (n : Nat) (h : n ≤ inf) : (cb n).b = n := by
  show cbits n = n
  rw [cbits_num (klit_nan n h), klit_kof n h, klit_bits]
theorem lit_code (n : Nat) (h : n ≤ inf) : codeOf n = n + 9223372036854775808 := by
  have h1 : codeOf n = kcode (klit n h) := by simp [codeOf, klit_nan n h, klit_kof n h]
  rw [h1]
  unfold kcode klit
  rw [if_pos (by simp only; omega)]
theorem raw_lit (a b : Nat) (ha : a ≤ inf) (hb : b ≤ inf) (h : (klit a ha).v ≤ (klit b hb).v) : N.RK.raw ⟨klit a ha, klit b hb, h⟩ = ⟨a, b, false, false⟩ := by
  show (⟨(klit a ha).bits, (klit b hb).bits, false, false⟩ : SpanV) = _
  rw [klit_bits, klit_bits]
theorem i1 : (4607182418800017408 : Nat) ≤ inf := by unfold inf; omega
theorem i2 : (4611686018427387904 : Nat) ≤ inf := by unfold inf; omega
theorem i3 : (4613937818241073152 : Nat) ≤ inf := by unfold inf; omega
def exV (B : Nat) : SubV := ⟨1, 2, 0, some ⟨B, 0, none⟩, 3, [4613937818241073152, 4607182418800017408, 4613937818241073152], some ⟨B + 1, 0, none⟩, 2, [⟨4607182418800017408, 4611686018427387904, false, true⟩, ⟨4611686018427387904, 4613937818241073152, false, false⟩], some ⟨B + 1 + 1, 0, none⟩, 1, [4611686018427387904]⟩
theorem ex_at (W : World) : (exV W.heap.size).At (((W.alloc (.cells #[.float .f64 4613937818241073152, .float .f64 4607182418800017408, .float .f64 4613937818241073152] 33)).alloc (.cells #[.float .f64 4607182418800017408, .float .f64 4611686018427387904, .bool false, .bool true, .float .f64 4611686018427387904, .float .f64 4613937818241073152, .bool false, .bool false] 50)).alloc (.cells #[.float .f64 4611686018427387904] 33)) := by
  refine ⟨⟨.inr ⟨W.heap.size, 0, rfl, ?_, fun i hi => ?_⟩, fun i hi => ?_, by unfold maxLen; show 3 ≤ _; omega⟩, ⟨.inr ⟨W.heap.size + 1, 0, rfl, ?_, fun i hi => ?_⟩, fun i hi => ?_, by unfold maxLen; show 2 ≤ _; omega⟩, ⟨.inr ⟨W.heap.size + 1 + 1, 0, rfl, ?_, fun i hi => ?_⟩, fun i hi => ?_, by unfold maxLen; show 1 ≤ _; omega⟩⟩
  · simp; omega
  · have : i = 0 ∨ i = 1 ∨ i = 2 := by have : i < 3 := hi; omega
    rcases this with rfl | rfl | rfl <;> (simp only [exV]; go_simp)
  · have : i = 0 ∨ i = 1 ∨ i = 2 := by have : i < 3 := hi; omega
    rcases this with rfl | rfl | rfl <;> simp [exV]
  · simp
  · have : i = 0 ∨ i = 1 := by have : i < 2 := hi; omega
    rcases this with rfl | rfl <;> (simp only [exV]; refine ⟨?_, ?_, ?_, ?_⟩ <;> go_simp)
  · have : i = 0 ∨ i = 1 := by have : i < 2 := hi; omega
    rcases this with rfl | rfl <;> simp [exV]
  · simp
  · have : i = 0 := by have : i < 1 := hi; omega
    subst this; simp only [exV]; go_simp
  · have : i = 0 := by have : i < 1 := hi; omega
    subst this; simp [exV]
theorem ex_rs (B : Nat) : bits (fsort (exV B).rs) = [4607182418800017408, 4613937818241073152] := by
  have e : fsort (exV B).rs = [cb 4607182418800017408, cb 4613937818241073152] := by
    refine strict_ext (fsort_strict _) ?_ (fun x => ?_)
    · refine List.pairwise_cons.2 ⟨fun y hy => ?_, List.pairwise_singleton _ _⟩
      rw [List.mem_singleton.1 hy, cb_code, cb_code, lit_code _ i1, lit_code _ i3]; omega
    · rw [fsort_mem]
      simp only [exV, List.mem_cons, List.not_mem_nil, or_false, exists_eq_or_imp, exists_eq_left]
      constructor
      · rintro (rfl | rfl | rfl) <;> simp
      · rintro (rfl | rfl) <;> simp
  rw [e]
  show [(cb _).b, (cb _).b] = _
  rw [cb_lit _ i1, cb_lit _ i3]
theorem ex_ws (B : Nat) : bits (fsort (exV B).ws) = [4611686018427387904] := by
  have e : fsort (exV B).ws = [cb 4611686018427387904] := by
    refine strict_ext (fsort_strict _) (List.pairwise_singleton _ _) (fun x => ?_)
    rw [fsort_mem]
    simp only [exV, List.mem_cons, List.not_mem_nil, or_false, exists_eq_left]
    exact ⟨fun h => h.symm, fun h => h.symm⟩
  rw [e]
  show [(cb _).b] = _
  rw [cb_lit _ i2]
def k13 : RK := ⟨klit 4607182418800017408 i1, klit 4613937818241073152 i3, by show (4607182418800017408 : Int) ≤ 4613937818241073152; omega⟩
theorem ex_ss (B : Nat) : refAllN [] (N.forms (exV B).ss) = [k13] := by
  obtain ⟨h1, h2⟩ := refAllN_spec (N.forms (exV B).ss) [] List.Pairwise.nil
  refine gapped_ext h1 (List.pairwise_singleton _ _) fun v => ?_
  rw [h2]
  have j2 : (4611686018427387903 : Nat) ≤ inf := by unfold inf; omega
  have e : N.forms (exV B).ss = [⟨klit 4607182418800017408 i1, klit 4611686018427387903 j2, by show (4607182418800017408 : Int) ≤ 4611686018427387903; omega⟩, ⟨klit 4611686018427387904 i2, klit 4613937818241073152 i3, by show (4611686018427387904 : Int) ≤ 4613937818241073152; omega⟩] := by
    unfold N.forms exV
    simp only [List.flatMap_cons, List.flatMap_nil]
    rw [N.fO_some (s := ⟨4607182418800017408, 4611686018427387904, false, true⟩) (l := klit 4607182418800017408 i1) (h := klit 4611686018427387903 j2) (canonS_some (by simp [klit_nan _ i1, klit_nan _ i2]) (by rw [klit_kof _ i1]; simp) (by rw [klit_kof _ i2]; simp [klit]) (by show (4607182418800017408 : Int) ≤ 4611686018427387903; omega)),
      N.fO_some (s := ⟨4611686018427387904, 4613937818241073152, false, false⟩) (canonS_lit 4611686018427387904 4613937818241073152 i2 i3 (by omega))]
    rfl
  rw [e]
  simp only [covL, List.mem_cons, List.not_mem_nil, or_false, exists_eq_or_imp, exists_eq_left, k13, klit, false_and, exists_false, false_or]
  omega
theorem ex_code (B : Nat) : canC (exV B) = 0 := by
  unfold canC
  have e1 : (exV B).ss.any wrongS = false := by
    simp only [exV, List.any_cons, List.any_nil, wrongS]
    rw [klit_nan _ i1, klit_nan _ i2, klit_nan _ i3]; rfl
  have e2 : outChk (exV B) = 0 := by
    unfold outChk
    rw [ex_rs, ex_ws, ex_ss]
    have a1 : ([4607182418800017408, 4613937818241073152] : List Nat).any isNaN = false := by
      simp only [List.any_cons, List.any_nil]
      rw [klit_nan _ i1, klit_nan _ i3]; rfl
    have a2 : ([4611686018427387904] : List Nat).any isNaN = false := by
      simp only [List.any_cons, List.any_nil]
      rw [klit_nan _ i2]; rfl
    rw [a1, a2]; rfl
  rw [e1, e2]; rfl
theorem ex_fits (B : Nat) : Fits (exV B) := ⟨by show 3 ≤ _; omega, by show 2 ≤ _; omega, by show 1 ≤ _; omega⟩

/-- Canon at the example. -/
theorem ex_canon (W : World) :
    Calls Tryz.prog 12 #[.agg #[.int .i64 1, .int .i64 2, .int .i64 0, .slice (some ⟨W.heap.size, 0, none⟩) 3 3, .slice (some ⟨W.heap.size + 1, 0, none⟩) 2 2, .slice (some ⟨W.heap.size + 1 + 1, 0, none⟩) 1 1]] (((W.alloc (.cells #[.float .f64 4613937818241073152, .float .f64 4607182418800017408, .float .f64 4613937818241073152] 33)).alloc (.cells #[.float .f64 4607182418800017408, .float .f64 4611686018427387904, .bool false, .bool true, .float .f64 4611686018427387904, .float .f64 4613937818241073152, .bool false, .bool false] 50)).alloc (.cells #[.float .f64 4611686018427387904] 33))
      fun e w' => ∃ a1 a2 a3 d1 d2 d3, e = .returned (.tuple #[.agg #[.int .i64 1, .int .i64 2, .int .i64 0, .slice a1 2 d1, .slice a2 1 d2, .slice a3 1 d3], .int .i64 0]) ∧ FAt w' a1 [4607182418800017408, 4613937818241073152] ∧ SAt w' a2 [⟨4607182418800017408, 4613937818241073152, false, false⟩] ∧ FAt w' a3 [4611686018427387904] ∧ Below W.heap.size W w' := by
  have h := canon_any (exV W.heap.size) _ (ex_at W) (ex_fits _)
  rw [ex_code, ex_rs, ex_ws, ex_ss] at h
  refine h.mono fun e w' ⟨hb, hc⟩ => ?_
  rcases hc with ⟨_, v1, v2, v3, rfl, o1, o2, o3⟩ | ⟨hc, _⟩
  · obtain ⟨⟨a1, d1, rfl⟩, p1⟩ := o1
    obtain ⟨⟨a2, d2, rfl⟩, p2⟩ := o2
    obtain ⟨⟨a3, d3, rfl⟩, p3⟩ := o3
    have l1 : ∀ x ∈ ([4607182418800017408, 4613937818241073152] : List Nat), x < 2 ^ 64 := by intro x hx; simp at hx; rcases hx with rfl | rfl <;> omega
    have l3 : ∀ x ∈ ([4611686018427387904] : List Nat), x < 2 ^ 64 := by intro x hx; simp at hx; subst hx; omega
    have s2 := N.own_sat p2 (by show 1 ≤ _; omega)
    rw [show [k13].map N.RK.raw = [⟨4607182418800017408, 4613937818241073152, false, false⟩] from congrArg (fun z => [z]) (raw_lit _ _ _ _ _)] at s2
    refine ⟨a1, a2, a3, d1, d2, d3, rfl, own_fat rfl p1 (by show 2 ≤ _; omega) l1, s2, own_fat rfl p3 (by show 1 ≤ _; omega) l3, ?_⟩
    have hA : Below W.heap.size W (((W.alloc (.cells #[.float .f64 4613937818241073152, .float .f64 4607182418800017408, .float .f64 4613937818241073152] 33)).alloc (.cells #[.float .f64 4607182418800017408, .float .f64 4611686018427387904, .bool false, .bool true, .float .f64 4611686018427387904, .float .f64 4613937818241073152, .bool false, .bool false] 50)).alloc (.cells #[.float .f64 4611686018427387904] 33)) := by (repeat (first | with_reducible exact Below.refl _ _ | ((with_reducible refine Below.alloc1 ?_ ?_ _); (· first | omega | (simp; done) | (simp; omega))) | (with_reducible refine Below.drew ?_) | (with_reducible refine below_drewN' ?_ _) | ((with_reducible refine Below.setCell1 ?_ ?_ _); (· first | omega | (simp; done) | (simp; omega))) | ((with_reducible refine Below.after (by assumption) ?_ ?_); (· first | omega | (simp; done) | (simp; omega)))))
    exact hA.trans (hb.mono hA.size)
  · exact absurd rfl hc
end Go.Proofs.YtgpkfgeflcdbcaaGreat.K
