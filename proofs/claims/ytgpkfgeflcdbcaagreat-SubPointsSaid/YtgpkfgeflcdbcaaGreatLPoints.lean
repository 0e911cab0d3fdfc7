/- The walk of SubPoints. -/
import Derived.Test.YtgpkfgeflcdbcaaGreatMPD
import Derived.Test.YtgpkfgeflcdbcaaGreatS4
namespace Go.Proofs.YtgpkfgeflcdbcaaGreat.P
set_option linter.unusedVariables false
open Go.RowKit Fl

theorem hasQ_some (l h : Key) (key : Nat) : hasB (some (l, h)) key = (fle l.bits key && fle key h.bits) := rfl
theorem smReadsP (B : Nat) : (smallV B).reads 4611686018427387904 = true := by
  have h2 : hasB (some (klit 4607182418800017408 (by unfold inf; omega), klit 4613937818241073152 (by unfold inf; omega))) 4611686018427387904 = true := by
    rw [hasQ_some]
    unfold fle
    rw [Key.bits_nan, Key.bits_nan, Key.kof_bits, Key.kof_bits, klit_nan 4611686018427387904 (by unfold inf; omega), klit_kof 4611686018427387904 (by unfold inf; omega)]
    simp [klit]
  have hs : (smallV B).ss = [⟨4607182418800017408, 4613937818241073152, false, false⟩] := rfl
  have hr : (⟨4607182418800017408, 4613937818241073152, false, false⟩ : SpanV).rg = some (klit 4607182418800017408 (by unfold inf; omega), klit 4613937818241073152 (by unfold inf; omega)) := canonS_lit 4607182418800017408 4613937818241073152 _ _ (by omega)
  unfold SubV.reads
  rw [hs]
  simp only [List.any_cons, List.any_nil, Bool.or_false]
  rw [hr, h2, Bool.or_true]
theorem smMeets_any (W : World) (v v' : Value) (h : SmRow v W) (h' : SmRow v' W) : Calls Tryz.prog 26 #[v, v'] W (Ret (.bool true) W) := by
  obtain ⟨B, rfl, hB⟩ := h
  obtain ⟨B', rfl, hB'⟩ := h'
  have h1 := subMeets_any (smallV B) (smallV B') W hB hB'
  have e : (smallV B).meets (smallV B') = true := by
    unfold SubV.meets
    rw [show (smallV B').ws = [4611686018427387904] from rfl]
    simp only [List.any_cons, List.any_nil, Bool.or_false]
    exact smReadsP B
  rw [e] at h1
  exact h1
theorem feqP_comm (a b : Nat) : feq a b = feq b a := by
  unfold feq
  cases isNaN a <;> cases isNaN b <;> simp
  exact ⟨fun h => h.symm, fun h => h.symm⟩
theorem canonP_one {a : Nat} (h : isNaN a = false) : canonS a a false false = some (kof a, kof a) := canonS_some (by simp [h]) (by simp) (by simp) (by omega)
theorem one_has (a b : Nat) : hasB (canonS a a false false) b = feq a b := by
  cases h : isNaN a with
  | true =>
    have e : canonS a a false false = none := by unfold canonS; rw [h]; rfl
    rw [e]; unfold feq; rw [h]; rfl
  | false =>
    rw [canonP_one h]
    rw [hasQ_some]
    unfold fle feq
    rw [Key.bits_nan, Key.kof_bits, h]
    cases hb : isNaN b with
    | true => simp
    | false =>
      rw [Bool.eq_iff_iff]; simp; omega
/-- One that reads just a key; by a span; one that writes it. -/
def rdV (B a : Nat) : SubV := ⟨1, 1, 0, some ⟨B, 0, none⟩, 1, [a], none, 0, [], none, 0, []⟩
def spV (B a : Nat) : SubV := ⟨1, 1, 0, none, 0, [], some ⟨B, 0, none⟩, 1, [⟨a, a, false, false⟩], none, 0, []⟩
def wrV (B b : Nat) : SubV := ⟨1, 1, 0, none, 0, [], none, 0, [], some ⟨B, 0, none⟩, 1, [b]⟩
theorem fat_nil (w : World) : FAt w none [] := ⟨.inl rfl, fun i hi => absurd hi (Nat.not_lt_zero _), Nat.zero_le _⟩
theorem sat_nil (w : World) : SAt w none [] := ⟨.inl rfl, fun i hi => absurd hi (Nat.not_lt_zero _), Nat.zero_le _⟩
theorem fat_one {w : World} {B a : Nat} (h : w.cell? ⟨B, 0, none⟩ = some (.float .f64 a)) (hB : B < w.heap.size) (ha : a < 2 ^ 64) : FAt w (some ⟨B, 0, none⟩) [a] := by
  refine ⟨.inr ⟨B, 0, rfl, hB, fun i hi => ?_⟩, fun i hi => ?_, by unfold maxLen; show 1 ≤ _; omega⟩
  · have : i = 0 := by have : i < 1 := hi; omega
    subst this; exact h
  · have : i = 0 := by have : i < 1 := hi; omega
    subst this; exact ha
theorem sat_one {w : World} {B a : Nat} (h0 : w.cell? ⟨B, 0, none⟩ = some (.float .f64 a)) (h1 : w.cell? ⟨B, 1, none⟩ = some (.float .f64 a)) (h2 : w.cell? ⟨B, 2, none⟩ = some (.bool false)) (h3 : w.cell? ⟨B, 3, none⟩ = some (.bool false)) (hB : B < w.heap.size) (ha : a < 2 ^ 64) : SAt w (some ⟨B, 0, none⟩) [⟨a, a, false, false⟩] := by
  refine ⟨.inr ⟨B, 0, rfl, hB, fun i hi => ?_⟩, fun i hi => ?_, by unfold maxLen; show 1 ≤ _; omega⟩
  · have : i = 0 := by have : i < 1 := hi; omega
    subst this
    exact ⟨h0, h1, h2, h3⟩
  · have : i = 0 := by have : i < 1 := hi; omega
    subst this; exact ⟨ha, ha⟩
theorem rd_reads (B a b : Nat) : (rdV B a).reads b = feq a b := by
  unfold SubV.reads rdV; simp only [List.any_cons, List.any_nil, Bool.or_false]; exact feqP_comm b a
theorem sp_reads (B a b : Nat) : (spV B a).reads b = feq a b := by
  unfold SubV.reads spV; simp only [List.any_cons, List.any_nil, Bool.or_false, Bool.false_or]; exact one_has a b
theorem rd_meets (B B' a b : Nat) : (rdV B a).meets (wrV B' b) = feq a b := by
  unfold SubV.meets wrV; simp only [List.any_cons, List.any_nil, Bool.or_false]; exact rd_reads B a b
theorem sp_meets (B B' a b : Nat) : (spV B a).meets (wrV B' b) = feq a b := by
  unfold SubV.meets wrV; simp only [List.any_cons, List.any_nil, Bool.or_false]; exact sp_reads B a b
theorem wr_meets (B B' a b : Nat) : (wrV B b).meets (rdV B' a) = false := rfl
theorem wr_writes (B a b : Nat) : (wrV B b).writes a = feq a b := by
  unfold SubV.writes wrV; simp only [List.any_cons, List.any_nil, Bool.or_false]
set_option maxHeartbeats 1000000 in
set_option maxRecDepth 100000 in
theorem subPoints_walk (a b : Nat) (w : World) (ha : a < 2 ^ 64) (hbl : b < 2 ^ 64) :
    Calls Tryz.prog 8 #[.float .f64 a, .float .f64 b] w (Ret (.bool true) w) := by
  go_enter Tryz.func8, Tryz.ntmps8
  go_upto_region 3 with (first | (go_at_call 16; (with_reducible refine (coding_any _).mono ?_); rintro e w1 ⟨rfl, hb1⟩; obtain ⟨hc1, hf1⟩ := bcell hb1; (try simp only [World.heap_drewN, World.cell?_drewN, World.frozen?_drewN] at hc1 hf1); have hz1 := hb1.size; (try simp at hz1); (try have hy1_0 : w.heap.size < w1.heap.size := by omega); (try have hy1_1 : w.heap.size + 1 < w1.heap.size := by omega); (try have hy1_2 : w.heap.size + 2 < w1.heap.size := by omega); (try have hy1_3 : w.heap.size + 3 < w1.heap.size := by omega); (try have hx1_0 : w.heap.size ≤ w1.heap.size := by omega); (try have hx1_1 : w.heap.size + 1 ≤ w1.heap.size := by omega); (try have hx1_2 : w.heap.size + 2 ≤ w1.heap.size := by omega)) | (go_at_call 25; refine (sm_row _).mono ?_; rintro e w2 ⟨v2, rfl, hv2, hb2⟩; go_wp2_with fail; refine (sm_row _).mono ?_; rintro e w3 ⟨v3, rfl, hv3, hb3⟩) | (go_at_call 26; (with_reducible refine (smMeets_any _ _ _ (hv2.below hb3) hv3).mono ?_); rintro e w4 ⟨rfl, hb4⟩; obtain ⟨hc4, hf4⟩ := bcell hb4; (try simp only [World.heap_drewN, World.cell?_drewN, World.frozen?_drewN] at hc4 hf4); have hz4 := hb4.size; (try simp at hz4); (try have hy4_0 : w.heap.size < w4.heap.size := by omega); (try have hy4_1 : w.heap.size + 1 < w4.heap.size := by omega); (try have hy4_2 : w.heap.size + 2 < w4.heap.size := by omega); (try have hy4_3 : w.heap.size + 3 < w4.heap.size := by omega); (try have hx4_0 : w.heap.size ≤ w4.heap.size := by omega); (try have hx4_1 : w.heap.size + 1 ≤ w4.heap.size := by omega); (try have hx4_2 : w.heap.size + 2 ≤ w4.heap.size := by omega)))
  have hw4 : Below w.heap.size w w4 := hb1.trans ((hb2.trans ((hb3.trans (hb4.mono hb3.size)).mono hb2.size)).mono hb1.size)
  clear hv2 hv3 hb1 hb2 hb3 hb4 hc1 hf1 hc4 hf4
  go_upto_region 7 with fail
  generalize hW5 : World.alloc _ _ = w5
  have hb5 : Below w4.heap.size w4 w5 := by rw [← hW5]; (repeat (first | with_reducible exact Below.refl _ _ | ((with_reducible refine Below.alloc1 ?_ ?_ _); (· first | omega | (simp; done) | (simp; omega))) | (with_reducible refine Below.drew ?_) | (with_reducible refine below_drewN' ?_ _) | ((with_reducible refine Below.setCell1 ?_ ?_ _); (· first | omega | (simp; done) | (simp; omega))) | ((with_reducible refine Below.after (by assumption) ?_ ?_); (· first | omega | (simp; done) | (simp; omega)))))
  have hz5 : w4.heap.size + 1 + 1 + 1 + 1 + 1 < w5.heap.size := by rw [← hW5]; simp
  have r0 : w5.cell? ⟨w4.heap.size, 0, none⟩ = some (.float .f64 a) := by rw [← hW5]; simp [go_sem]
  have x0 : w5.cell? ⟨w4.heap.size + 1, 0, none⟩ = some (.int .i64 1) := by rw [← hW5]; simp [go_sem]
  have x1 : w5.cell? ⟨w4.heap.size + 1, 1, none⟩ = some (.int .i64 1) := by rw [← hW5]; simp [go_sem]
  have x2 : w5.cell? ⟨w4.heap.size + 1, 2, none⟩ = some (.int .i64 0) := by rw [← hW5]; simp [go_sem]
  have x3 : w5.cell? ⟨w4.heap.size + 1, 3, none⟩ = some (.slice (some ⟨w4.heap.size, 0, none⟩) 1 1) := by rw [← hW5]; simp [go_sem]
  have x4 : w5.cell? ⟨w4.heap.size + 1, 4, none⟩ = some (.slice none 0 0) := by rw [← hW5]; simp [go_sem]
  have x5 : w5.cell? ⟨w4.heap.size + 1, 5, none⟩ = some (.slice none 0 0) := by rw [← hW5]; simp [go_sem]
  have s0 : w5.cell? ⟨w4.heap.size + 1 + 1, 0, none⟩ = some (.float .f64 a) := by rw [← hW5]; simp [go_sem]
  have s1 : w5.cell? ⟨w4.heap.size + 1 + 1, 1, none⟩ = some (.float .f64 a) := by rw [← hW5]; simp [go_sem]
  have s2 : w5.cell? ⟨w4.heap.size + 1 + 1, 2, none⟩ = some (.bool false) := by rw [← hW5]; simp [go_sem]
  have s3 : w5.cell? ⟨w4.heap.size + 1 + 1, 3, none⟩ = some (.bool false) := by rw [← hW5]; simp [go_sem]
  have y0 : w5.cell? ⟨w4.heap.size + 1 + 1 + 1, 0, none⟩ = some (.int .i64 1) := by rw [← hW5]; simp [go_sem]
  have y1 : w5.cell? ⟨w4.heap.size + 1 + 1 + 1, 1, none⟩ = some (.int .i64 1) := by rw [← hW5]; simp [go_sem]
  have y2 : w5.cell? ⟨w4.heap.size + 1 + 1 + 1, 2, none⟩ = some (.int .i64 0) := by rw [← hW5]; simp [go_sem]
  have y3 : w5.cell? ⟨w4.heap.size + 1 + 1 + 1, 3, none⟩ = some (.slice none 0 0) := by rw [← hW5]; simp [go_sem]
  have y4 : w5.cell? ⟨w4.heap.size + 1 + 1 + 1, 4, none⟩ = some (.slice (some ⟨w4.heap.size + 1 + 1, 0, none⟩) 1 1) := by rw [← hW5]; simp [go_sem]
  have y5 : w5.cell? ⟨w4.heap.size + 1 + 1 + 1, 5, none⟩ = some (.slice none 0 0) := by rw [← hW5]; simp [go_sem]
  have t0 : w5.cell? ⟨w4.heap.size + 1 + 1 + 1 + 1, 0, none⟩ = some (.float .f64 b) := by rw [← hW5]; simp [go_sem]
  have z0 : w5.cell? ⟨w4.heap.size + 1 + 1 + 1 + 1 + 1, 0, none⟩ = some (.int .i64 1) := by rw [← hW5]; simp [go_sem]
  have z1 : w5.cell? ⟨w4.heap.size + 1 + 1 + 1 + 1 + 1, 1, none⟩ = some (.int .i64 1) := by rw [← hW5]; simp [go_sem]
  have z2 : w5.cell? ⟨w4.heap.size + 1 + 1 + 1 + 1 + 1, 2, none⟩ = some (.int .i64 0) := by rw [← hW5]; simp [go_sem]
  have z3 : w5.cell? ⟨w4.heap.size + 1 + 1 + 1 + 1 + 1, 3, none⟩ = some (.slice none 0 0) := by rw [← hW5]; simp [go_sem]
  have z4 : w5.cell? ⟨w4.heap.size + 1 + 1 + 1 + 1 + 1, 4, none⟩ = some (.slice none 0 0) := by rw [← hW5]; simp [go_sem]
  have z5 : w5.cell? ⟨w4.heap.size + 1 + 1 + 1 + 1 + 1, 5, none⟩ = some (.slice (some ⟨w4.heap.size + 1 + 1 + 1 + 1, 0, none⟩) 1 1) := by rw [← hW5]; simp [go_sem]
  have hw5 := hw4.trans (hb5.mono hw4.size)
  clear hW5 hb5
  have AR := fun W (hb : Below w5.heap.size w5 W) => (⟨fat_one r0 (by omega) ha, sat_nil _, fat_nil _⟩ : (rdV w4.heap.size a).At w5).below hb
  have AS := fun W (hb : Below w5.heap.size w5 W) => (⟨fat_nil _, sat_one s0 s1 s2 s3 (by omega) ha, fat_nil _⟩ : (spV (w4.heap.size + 1 + 1) a).At w5).below hb
  have AW := fun W (hb : Below w5.heap.size w5 W) => (⟨fat_nil _, sat_nil _, fat_one t0 (by omega) hbl⟩ : (wrV (w4.heap.size + 1 + 1 + 1 + 1) b).At w5).below hb
  have M1 : ∀ W, Below w5.heap.size w5 W → Calls Tryz.prog 26 #[.agg #[.int .i64 1, .int .i64 1, .int .i64 0, .slice (some ⟨w4.heap.size, 0, none⟩) 1 1, .slice none 0 0, .slice none 0 0], .agg #[.int .i64 1, .int .i64 1, .int .i64 0, .slice none 0 0, .slice none 0 0, .slice (some ⟨w4.heap.size + 1 + 1 + 1 + 1, 0, none⟩) 1 1]] W (Ret (.bool (feq a b)) W) := fun W hb => by
    have h := subMeets_any (rdV w4.heap.size a) (wrV (w4.heap.size + 1 + 1 + 1 + 1) b) W (AR W hb) (AW W hb)
    rw [rd_meets] at h; exact h
  have M2 : ∀ W, Below w5.heap.size w5 W → Calls Tryz.prog 26 #[.agg #[.int .i64 1, .int .i64 1, .int .i64 0, .slice none 0 0, .slice (some ⟨w4.heap.size + 1 + 1, 0, none⟩) 1 1, .slice none 0 0], .agg #[.int .i64 1, .int .i64 1, .int .i64 0, .slice none 0 0, .slice none 0 0, .slice (some ⟨w4.heap.size + 1 + 1 + 1 + 1, 0, none⟩) 1 1]] W (Ret (.bool (feq a b)) W) := fun W hb => by
    have h := subMeets_any (spV (w4.heap.size + 1 + 1) a) (wrV (w4.heap.size + 1 + 1 + 1 + 1) b) W (AS W hb) (AW W hb)
    rw [sp_meets] at h; exact h
  have M3 : ∀ W, Below w5.heap.size w5 W → Calls Tryz.prog 26 #[.agg #[.int .i64 1, .int .i64 1, .int .i64 0, .slice none 0 0, .slice none 0 0, .slice (some ⟨w4.heap.size + 1 + 1 + 1 + 1, 0, none⟩) 1 1], .agg #[.int .i64 1, .int .i64 1, .int .i64 0, .slice (some ⟨w4.heap.size, 0, none⟩) 1 1, .slice none 0 0, .slice none 0 0]] W (Ret (.bool false) W) := fun W hb => by
    have h := subMeets_any (wrV (w4.heap.size + 1 + 1 + 1 + 1) b) (rdV w4.heap.size a) W (AW W hb) (AR W hb)
    rw [wr_meets] at h; exact h
  have R1 : ∀ W, Below w5.heap.size w5 W → Calls Tryz.prog 27 #[.agg #[.int .i64 1, .int .i64 1, .int .i64 0, .slice (some ⟨w4.heap.size, 0, none⟩) 1 1, .slice none 0 0, .slice none 0 0], .float .f64 b] W (Ret (.bool (feq a b)) W) := fun W hb => by
    have h := subReads_any (rdV w4.heap.size a) b W (AR W hb)
    rw [rd_reads] at h; exact h
  have R2 : ∀ W, Below w5.heap.size w5 W → Calls Tryz.prog 27 #[.agg #[.int .i64 1, .int .i64 1, .int .i64 0, .slice none 0 0, .slice (some ⟨w4.heap.size + 1 + 1, 0, none⟩) 1 1, .slice none 0 0], .float .f64 b] W (Ret (.bool (feq a b)) W) := fun W hb => by
    have h := subReads_any (spV (w4.heap.size + 1 + 1) a) b W (AS W hb)
    rw [sp_reads] at h; exact h
  have W1 : ∀ W, Below w5.heap.size w5 W → Calls Tryz.prog 28 #[.agg #[.int .i64 1, .int .i64 1, .int .i64 0, .slice none 0 0, .slice none 0 0, .slice (some ⟨w4.heap.size + 1 + 1 + 1 + 1, 0, none⟩) 1 1], .float .f64 a] W (Ret (.bool (feq a b)) W) := fun W hb => by
    have h := subWrites_any (wrV (w4.heap.size + 1 + 1 + 1 + 1) b) a W (AW W hb)
    rw [wr_writes] at h; exact h
  clear AR AS AW r0 s0 s1 s2 s3 t0 hw4
  generalize feq a b = v at *
  generalize hn0 : w4.heap.size = n at *
  clear hn0
  have HW5 := hid hw5
  have hl1 : n + 1 < w5.heap.size := by omega
  have hl3 : n + 1 + 1 + 1 < w5.heap.size := by omega
  have BX := hid fun W (hb : Below w5.heap.size w5 W) => (show W.cell? ⟨n + 1, 0, none⟩ = some (.int .i64 1) ∧ W.cell? ⟨n + 1, 1, none⟩ = some (.int .i64 1) ∧ W.cell? ⟨n + 1, 2, none⟩ = some (.int .i64 0) ∧ W.cell? ⟨n + 1, 3, none⟩ = some (.slice (some ⟨n, 0, none⟩) 1 1) ∧ W.cell? ⟨n + 1, 4, none⟩ = some (.slice none 0 0) ∧ W.cell? ⟨n + 1, 5, none⟩ = some (.slice none 0 0) from
    ⟨(hb.cell (p := ⟨n + 1, 0, none⟩) hl1).trans x0, (hb.cell (p := ⟨n + 1, 1, none⟩) hl1).trans x1, (hb.cell (p := ⟨n + 1, 2, none⟩) hl1).trans x2, (hb.cell (p := ⟨n + 1, 3, none⟩) hl1).trans x3, (hb.cell (p := ⟨n + 1, 4, none⟩) hl1).trans x4, (hb.cell (p := ⟨n + 1, 5, none⟩) hl1).trans x5⟩)
  have BY := hid fun W (hb : Below w5.heap.size w5 W) => (show W.cell? ⟨n + 1 + 1 + 1, 0, none⟩ = some (.int .i64 1) ∧ W.cell? ⟨n + 1 + 1 + 1, 1, none⟩ = some (.int .i64 1) ∧ W.cell? ⟨n + 1 + 1 + 1, 2, none⟩ = some (.int .i64 0) ∧ W.cell? ⟨n + 1 + 1 + 1, 3, none⟩ = some (.slice none 0 0) ∧ W.cell? ⟨n + 1 + 1 + 1, 4, none⟩ = some (.slice (some ⟨n + 1 + 1, 0, none⟩) 1 1) ∧ W.cell? ⟨n + 1 + 1 + 1, 5, none⟩ = some (.slice none 0 0) from
    ⟨(hb.cell (p := ⟨n + 1 + 1 + 1, 0, none⟩) hl3).trans y0, (hb.cell (p := ⟨n + 1 + 1 + 1, 1, none⟩) hl3).trans y1, (hb.cell (p := ⟨n + 1 + 1 + 1, 2, none⟩) hl3).trans y2, (hb.cell (p := ⟨n + 1 + 1 + 1, 3, none⟩) hl3).trans y3, (hb.cell (p := ⟨n + 1 + 1 + 1, 4, none⟩) hl3).trans y4, (hb.cell (p := ⟨n + 1 + 1 + 1, 5, none⟩) hl3).trans y5⟩)
  have BZ := hid fun W (hb : Below w5.heap.size w5 W) => (show W.cell? ⟨n + 1 + 1 + 1 + 1 + 1, 0, none⟩ = some (.int .i64 1) ∧ W.cell? ⟨n + 1 + 1 + 1 + 1 + 1, 1, none⟩ = some (.int .i64 1) ∧ W.cell? ⟨n + 1 + 1 + 1 + 1 + 1, 2, none⟩ = some (.int .i64 0) ∧ W.cell? ⟨n + 1 + 1 + 1 + 1 + 1, 3, none⟩ = some (.slice none 0 0) ∧ W.cell? ⟨n + 1 + 1 + 1 + 1 + 1, 4, none⟩ = some (.slice none 0 0) ∧ W.cell? ⟨n + 1 + 1 + 1 + 1 + 1, 5, none⟩ = some (.slice (some ⟨n + 1 + 1 + 1 + 1, 0, none⟩) 1 1) from
    ⟨(hb.cell (p := ⟨n + 1 + 1 + 1 + 1 + 1, 0, none⟩) hz5).trans z0, (hb.cell (p := ⟨n + 1 + 1 + 1 + 1 + 1, 1, none⟩) hz5).trans z1, (hb.cell (p := ⟨n + 1 + 1 + 1 + 1 + 1, 2, none⟩) hz5).trans z2, (hb.cell (p := ⟨n + 1 + 1 + 1 + 1 + 1, 3, none⟩) hz5).trans z3, (hb.cell (p := ⟨n + 1 + 1 + 1 + 1 + 1, 4, none⟩) hz5).trans z4, (hb.cell (p := ⟨n + 1 + 1 + 1 + 1 + 1, 5, none⟩) hz5).trans z5⟩)
  clear x0 x1 x2 x3 x4 x5 y0 y1 y2 y3 y4 y5 z0 z1 z2 z3 z4 z5
  have h5 : Below w5.heap.size w5 w5 := Below.refl _ _
  obtain ⟨x0, x1, x2, x3, x4, x5⟩ := BX.out w5 h5
  obtain ⟨y0, y1, y2, y3, y4, y5⟩ := BY.out w5 h5
  obtain ⟨z0, z1, z2, z3, z4, z5⟩ := BZ.out w5 h5
  go_wp2_with fail
  refine (M1 w5 h5).mono ?_
  rintro e w6 ⟨rfl, hb6⟩
  have h6 := h5.trans (hb6.mono h5.size)
  clear x0 x1 x2 x3 x4 x5 y0 y1 y2 y3 y4 y5 z0 z1 z2 z3 z4 z5 hb6 h5
  obtain ⟨x0, x1, x2, x3, x4, x5⟩ := BX.out w6 h6
  obtain ⟨y0, y1, y2, y3, y4, y5⟩ := BY.out w6 h6
  obtain ⟨z0, z1, z2, z3, z4, z5⟩ := BZ.out w6 h6
  go_wp2_with fail
  refine (M2 w6 h6).mono ?_
  rintro e w7 ⟨rfl, hb7⟩
  have h7 := h6.trans (hb7.mono h6.size)
  clear x0 x1 x2 x3 x4 x5 y0 y1 y2 y3 y4 y5 z0 z1 z2 z3 z4 z5 hb7 h6
  obtain ⟨x0, x1, x2, x3, x4, x5⟩ := BX.out w7 h7
  obtain ⟨y0, y1, y2, y3, y4, y5⟩ := BY.out w7 h7
  obtain ⟨z0, z1, z2, z3, z4, z5⟩ := BZ.out w7 h7
  go_wp2_with fail
  refine (M3 w7 h7).mono ?_
  rintro e w8 ⟨rfl, hb8⟩
  have h8 := h7.trans (hb8.mono h7.size)
  clear x0 x1 x2 x3 x4 x5 y0 y1 y2 y3 y4 y5 z0 z1 z2 z3 z4 z5 hb8 h7
  obtain ⟨x0, x1, x2, x3, x4, x5⟩ := BX.out w8 h8
  obtain ⟨y0, y1, y2, y3, y4, y5⟩ := BY.out w8 h8
  obtain ⟨z0, z1, z2, z3, z4, z5⟩ := BZ.out w8 h8
  go_wp2_with fail
  refine (R1 w8 h8).mono ?_
  rintro e w9 ⟨rfl, hb9⟩
  have h9 := h8.trans (hb9.mono h8.size)
  clear x0 x1 x2 x3 x4 x5 y0 y1 y2 y3 y4 y5 z0 z1 z2 z3 z4 z5 hb9 h8
  obtain ⟨x0, x1, x2, x3, x4, x5⟩ := BX.out w9 h9
  obtain ⟨y0, y1, y2, y3, y4, y5⟩ := BY.out w9 h9
  obtain ⟨z0, z1, z2, z3, z4, z5⟩ := BZ.out w9 h9
  go_wp2_with fail
  refine (R2 w9 h9).mono ?_
  rintro e w10 ⟨rfl, hb10⟩
  have h10 := h9.trans (hb10.mono h9.size)
  clear x0 x1 x2 x3 x4 x5 y0 y1 y2 y3 y4 y5 z0 z1 z2 z3 z4 z5 hb10 h9
  obtain ⟨x0, x1, x2, x3, x4, x5⟩ := BX.out w10 h10
  obtain ⟨y0, y1, y2, y3, y4, y5⟩ := BY.out w10 h10
  obtain ⟨z0, z1, z2, z3, z4, z5⟩ := BZ.out w10 h10
  go_wp2_with fail
  refine (W1 w10 h10).mono ?_
  rintro e w11 ⟨rfl, hb11⟩
  have h11 := h10.trans (hb11.mono h10.size)
  clear x0 x1 x2 x3 x4 x5 y0 y1 y2 y3 y4 y5 z0 z1 z2 z3 z4 z5 hb11 h10
  have hr := HW5.out.trans (h11.mono HW5.out.size)
  cases v <;> (go_wp2_with fail; go_ret; exact ⟨rfl, hr⟩)
end Go.Proofs.YtgpkfgeflcdbcaaGreat.P
