/- The walk of SubKeys. -/
import Derived.Test.YtibimhjbhincnaaS4
namespace Go.Proofs.Ytibimhjbhincnaa
set_option linter.unusedVariables false
open Go.RowKit Fl

/-- The statements' small submission, its rows in the blocks behind B. -/
def smallV (B : Nat) : SubV := ⟨1, 2, 0, some ⟨B + 1, 0, none⟩, 2, [4607182418800017408, 4613937818241073152], some ⟨B + 1 + 1, 0, none⟩, 1, [⟨4607182418800017408, 4613937818241073152, false, false⟩], some ⟨B + 1 + 1 + 1, 0, none⟩, 1, [4611686018427387904]⟩
def SmallRet (w : World) (e : Ending) (w' : World) : Prop := ∃ B : Nat, e = .returned (.agg #[.int .i64 1, .int .i64 2, .int .i64 0, .slice (some ⟨B + 1, 0, none⟩) 2 2, .slice (some ⟨B + 1 + 1, 0, none⟩) 1 1, .slice (some ⟨B + 1 + 1 + 1, 0, none⟩) 1 1]) ∧ (smallV B).At w' ∧ Below w.heap.size w w'

theorem small_any (w : World) : Calls Try.prog 33 #[] w (SmallRet w) := by
  go_enter Try.func33, Try.ntmps33
  go_wp2
  refine bodyPost_ret (v := .agg #[.int .i64 1, .int .i64 2, .int .i64 0, .slice (some ⟨w.heap.size + 1, 0, none⟩) 2 2, .slice (some ⟨w.heap.size + 1 + 1, 0, none⟩) 1 1, .slice (some ⟨w.heap.size + 1 + 1 + 1, 0, none⟩) 1 1]) (by simp [results, Try.results33, go_sem]) rfl ⟨w.heap.size, rfl, ?_, by (repeat (first | with_reducible exact Below.refl _ _ | ((with_reducible refine Below.alloc1 ?_ ?_ _); (· first | omega | (simp; done) | (simp; omega))) | (with_reducible refine Below.drew ?_) | (with_reducible refine below_drewN' ?_ _) | ((with_reducible refine Below.setCell1 ?_ ?_ _); (· first | omega | (simp; done) | (simp; omega))) | ((with_reducible refine Below.after (by assumption) ?_ ?_); (· first | omega | (simp; done) | (simp; omega)))))⟩
  refine ⟨⟨.inr ⟨w.heap.size + 1, 0, rfl, ?_, fun i hi => ?_⟩, fun i hi => ?_, by unfold maxLen; show 2 ≤ _; omega⟩, ⟨.inr ⟨w.heap.size + 1 + 1, 0, rfl, ?_, fun i hi => ?_⟩, fun i hi => ?_, by unfold maxLen; show 1 ≤ _; omega⟩, ⟨.inr ⟨w.heap.size + 1 + 1 + 1, 0, rfl, ?_, fun i hi => ?_⟩, fun i hi => ?_, by unfold maxLen; show 1 ≤ _; omega⟩⟩
  · simp
  · have : i = 0 ∨ i = 1 := by have : i < 2 := hi; omega
    rcases this with rfl | rfl <;> (simp only [smallV]; go_simp)
  · have : i = 0 ∨ i = 1 := by have : i < 2 := hi; omega
    rcases this with rfl | rfl <;> simp [smallV]
  · simp
  · have : i = 0 := by have : i < 1 := hi; omega
    subst this
    simp only [smallV]
    refine ⟨?_, ?_, ?_, ?_⟩ <;> go_simp
  · have : i = 0 := by have : i < 1 := hi; omega
    subst this; simp [smallV]
  · simp
  · have : i = 0 := by have : i < 1 := hi; omega
    subst this; simp only [smallV]; go_simp
  · have : i = 0 := by have : i < 1 := hi; omega
    subst this; simp [smallV]

theorem hasB_lit (a b k : Nat) (ha : a ≤ inf) (hb : b ≤ inf) (hk : k ≤ inf) (h : a ≤ k ∧ k ≤ b) : hasB (canonS a b false false) k = true := by
  rw [canonS_lit a b ha hb (by omega), hasB_some, klit_nan k hk, klit_kof k hk]
  simp [klit]; omega
theorem smallReads (B : Nat) (w : World) (h : (smallV B).At w) (k : Nat) (hk : k = 4612811918334230528 ∨ k = 4611686018427387904) : (smallV B).reads k = true := by
  unfold SubV.reads
  rw [Bool.or_eq_true]; right
  simp only [smallV, List.any_cons, List.any_nil, Bool.or_false, SpanV.rg]
  rcases hk with rfl | rfl
  · exact hasB_lit _ _ _ (by unfold inf; omega) (by unfold inf; omega) (by unfold inf; omega) (by omega)
  · exact hasB_lit _ _ _ (by unfold inf; omega) (by unfold inf; omega) (by unfold inf; omega) (by omega)

theorem smallReads_any (B : Nat) (w : World) (h : (smallV B).At w) :
    Calls Try.prog 32 #[.agg #[.int .i64 1, .int .i64 2, .int .i64 0, .slice (some ⟨B + 1, 0, none⟩) 2 2, .slice (some ⟨B + 1 + 1, 0, none⟩) 1 1, .slice (some ⟨B + 1 + 1 + 1, 0, none⟩) 1 1], .float .f64 4612811918334230528] w (Ret (.bool true) w) := by
  have h1 := subReads_any (smallV B) 4612811918334230528 w h
  rw [smallReads B w h _ (.inl rfl)] at h1
  exact h1
theorem smallWrites_any (B : Nat) (w : World) (h : (smallV B).At w) :
    Calls Try.prog 34 #[.agg #[.int .i64 1, .int .i64 2, .int .i64 0, .slice (some ⟨B + 1, 0, none⟩) 2 2, .slice (some ⟨B + 1 + 1, 0, none⟩) 1 1, .slice (some ⟨B + 1 + 1 + 1, 0, none⟩) 1 1], .float .f64 4607182418800017408] w (Ret (.bool false) w) := by
  have h1 := subWrites_any (smallV B) 4607182418800017408 w h
  have e : (smallV B).writes 4607182418800017408 = false := by
    unfold SubV.writes
    simp only [smallV, List.any_cons, List.any_nil, Bool.or_false]
    unfold feq
    rw [klit_kof 4607182418800017408 (by unfold inf; omega), klit_kof 4611686018427387904 (by unfold inf; omega)]
    simp [klit]
  rw [e] at h1
  exact h1
theorem smallMeets_any (B B' : Nat) (w : World) (h : (smallV B).At w) (h' : (smallV B').At w) :
    Calls Try.prog 35 #[.agg #[.int .i64 1, .int .i64 2, .int .i64 0, .slice (some ⟨B + 1, 0, none⟩) 2 2, .slice (some ⟨B + 1 + 1, 0, none⟩) 1 1, .slice (some ⟨B + 1 + 1 + 1, 0, none⟩) 1 1], .agg #[.int .i64 1, .int .i64 2, .int .i64 0, .slice (some ⟨B' + 1, 0, none⟩) 2 2, .slice (some ⟨B' + 1 + 1, 0, none⟩) 1 1, .slice (some ⟨B' + 1 + 1 + 1, 0, none⟩) 1 1]] w (Ret (.bool true) w) := by
  have h1 := subMeets_any (smallV B) (smallV B') w h h'
  have e : (smallV B).meets (smallV B') = true := by
    unfold SubV.meets
    rw [show (smallV B').ws = [4611686018427387904] from rfl]
    simp only [List.any_cons, List.any_nil, Bool.or_false]
    exact smallReads B w h _ (.inr rfl)
  rw [e] at h1
  exact h1

set_option maxRecDepth 100000 in
theorem subKeys_w (x y : SubV) (key : Nat) (v1 v2 v3 : Bool) (w : World) (hk : key < 2 ^ 64)
    (H1 : ∀ W, Below w.heap.size w W → Calls Try.prog 32 #[.agg #[.int .i64 x.s0, .int .i64 x.s1, .int .i64 x.s2, .slice x.ra x.rs.length x.rc, .slice x.sa x.ss.length x.sc, .slice x.wa x.ws.length x.wc], .float .f64 key] W (Ret (.bool v1) W))
    (H2 : ∀ W, Below w.heap.size w W → Calls Try.prog 36 #[.agg #[.int .i64 x.s0, .int .i64 x.s1, .int .i64 x.s2, .slice x.ra x.rs.length x.rc, .slice x.sa x.ss.length x.sc, .slice x.wa x.ws.length x.wc], .float .f64 key] W (Ret (.bool v1) W))
    (H3 : ∀ W, Below w.heap.size w W → Calls Try.prog 34 #[.agg #[.int .i64 x.s0, .int .i64 x.s1, .int .i64 x.s2, .slice x.ra x.rs.length x.rc, .slice x.sa x.ss.length x.sc, .slice x.wa x.ws.length x.wc], .float .f64 key] W (Ret (.bool v2) W))
    (H4 : ∀ W, Below w.heap.size w W → Calls Try.prog 37 #[.agg #[.int .i64 x.s0, .int .i64 x.s1, .int .i64 x.s2, .slice x.ra x.rs.length x.rc, .slice x.sa x.ss.length x.sc, .slice x.wa x.ws.length x.wc], .float .f64 key] W (Ret (.bool v2) W))
    (H5 : ∀ W, Below w.heap.size w W → Calls Try.prog 35 #[.agg #[.int .i64 x.s0, .int .i64 x.s1, .int .i64 x.s2, .slice x.ra x.rs.length x.rc, .slice x.sa x.ss.length x.sc, .slice x.wa x.ws.length x.wc], .agg #[.int .i64 y.s0, .int .i64 y.s1, .int .i64 y.s2, .slice y.ra y.rs.length y.rc, .slice y.sa y.ss.length y.sc, .slice y.wa y.ws.length y.wc]] W (Ret (.bool v3) W))
    (H6 : ∀ W, Below w.heap.size w W → Calls Try.prog 38 #[.agg #[.int .i64 x.s0, .int .i64 x.s1, .int .i64 x.s2, .slice x.ra x.rs.length x.rc, .slice x.sa x.ss.length x.sc, .slice x.wa x.ws.length x.wc], .agg #[.int .i64 y.s0, .int .i64 y.s1, .int .i64 y.s2, .slice y.ra y.rs.length y.rc, .slice y.sa y.ss.length y.sc, .slice y.wa y.ws.length y.wc]] W (Ret (.bool v3) W)) :
    Calls Try.prog 7 #[.agg #[.int .i64 x.s0, .int .i64 x.s1, .int .i64 x.s2, .slice x.ra x.rs.length x.rc, .slice x.sa x.ss.length x.sc, .slice x.wa x.ws.length x.wc], .agg #[.int .i64 y.s0, .int .i64 y.s1, .int .i64 y.s2, .slice y.ra y.rs.length y.rc, .slice y.sa y.ss.length y.sc, .slice y.wa y.ws.length y.wc], .float .f64 key] w (Ret (.bool true) w) := by
  generalize x.rs.length = n1 at *
  generalize x.ss.length = n2 at *
  generalize x.ws.length = n3 at *
  generalize y.rs.length = n4 at *
  generalize y.ss.length = n5 at *
  generalize y.ws.length = n6 at *
  go_enter Try.func7, Try.ntmps7
  go_wp2_with fail
  ((with_reducible refine (small_any _).mono ?_); rintro e w1 ⟨B1, rfl, hA1, hb1⟩; obtain ⟨hc1, hf1⟩ := bcell hb1; (try simp only [World.heap_drewN, World.cell?_drewN, World.frozen?_drewN] at hc1 hf1); have hz1 := hb1.size; (try simp at hz1); (try have hy1_0 : w.heap.size < w1.heap.size := by omega); (try have hy1_1 : w.heap.size + 1 < w1.heap.size := by omega); (try have hy1_2 : w.heap.size + 2 < w1.heap.size := by omega); (try have hy1_3 : w.heap.size + 3 < w1.heap.size := by omega); (try have hx1_0 : w.heap.size ≤ w1.heap.size := by omega); (try have hx1_1 : w.heap.size + 1 ≤ w1.heap.size := by omega); (try have hx1_2 : w.heap.size + 2 ≤ w1.heap.size := by omega))
  go_wp2_with fail
  ((with_reducible refine (smallReads_any _ _ hA1).mono ?_); rintro e w2 ⟨rfl, hb2⟩; obtain ⟨hc2, hf2⟩ := bcell hb2; (try simp only [World.heap_drewN, World.cell?_drewN, World.frozen?_drewN] at hc2 hf2); have hz2 := hb2.size; (try simp at hz2); (try have hy2_0 : w.heap.size < w2.heap.size := by omega); (try have hy2_1 : w.heap.size + 1 < w2.heap.size := by omega); (try have hy2_2 : w.heap.size + 2 < w2.heap.size := by omega); (try have hy2_3 : w.heap.size + 3 < w2.heap.size := by omega); (try have hx2_0 : w.heap.size ≤ w2.heap.size := by omega); (try have hx2_1 : w.heap.size + 1 ≤ w2.heap.size := by omega); (try have hx2_2 : w.heap.size + 2 ≤ w2.heap.size := by omega))
  go_wp2_with fail
  ((with_reducible refine (small_any _).mono ?_); rintro e w3 ⟨B3, rfl, hA3, hb3⟩; obtain ⟨hc3, hf3⟩ := bcell hb3; (try simp only [World.heap_drewN, World.cell?_drewN, World.frozen?_drewN] at hc3 hf3); have hz3 := hb3.size; (try simp at hz3); (try have hy3_0 : w.heap.size < w3.heap.size := by omega); (try have hy3_1 : w.heap.size + 1 < w3.heap.size := by omega); (try have hy3_2 : w.heap.size + 2 < w3.heap.size := by omega); (try have hy3_3 : w.heap.size + 3 < w3.heap.size := by omega); (try have hx3_0 : w.heap.size ≤ w3.heap.size := by omega); (try have hx3_1 : w.heap.size + 1 ≤ w3.heap.size := by omega); (try have hx3_2 : w.heap.size + 2 ≤ w3.heap.size := by omega))
  go_wp2_with fail
  ((with_reducible refine (smallWrites_any _ _ hA3).mono ?_); rintro e w4 ⟨rfl, hb4⟩; obtain ⟨hc4, hf4⟩ := bcell hb4; (try simp only [World.heap_drewN, World.cell?_drewN, World.frozen?_drewN] at hc4 hf4); have hz4 := hb4.size; (try simp at hz4); (try have hy4_0 : w.heap.size < w4.heap.size := by omega); (try have hy4_1 : w.heap.size + 1 < w4.heap.size := by omega); (try have hy4_2 : w.heap.size + 2 < w4.heap.size := by omega); (try have hy4_3 : w.heap.size + 3 < w4.heap.size := by omega); (try have hx4_0 : w.heap.size ≤ w4.heap.size := by omega); (try have hx4_1 : w.heap.size + 1 ≤ w4.heap.size := by omega); (try have hx4_2 : w.heap.size + 2 ≤ w4.heap.size := by omega))
  go_wp2_with fail
  ((with_reducible refine (small_any _).mono ?_); rintro e w5 ⟨B5, rfl, hA5, hb5⟩; obtain ⟨hc5, hf5⟩ := bcell hb5; (try simp only [World.heap_drewN, World.cell?_drewN, World.frozen?_drewN] at hc5 hf5); have hz5 := hb5.size; (try simp at hz5); (try have hy5_0 : w.heap.size < w5.heap.size := by omega); (try have hy5_1 : w.heap.size + 1 < w5.heap.size := by omega); (try have hy5_2 : w.heap.size + 2 < w5.heap.size := by omega); (try have hy5_3 : w.heap.size + 3 < w5.heap.size := by omega); (try have hx5_0 : w.heap.size ≤ w5.heap.size := by omega); (try have hx5_1 : w.heap.size + 1 ≤ w5.heap.size := by omega); (try have hx5_2 : w.heap.size + 2 ≤ w5.heap.size := by omega))
  go_wp2_with fail
  ((with_reducible refine (small_any _).mono ?_); rintro e w6 ⟨B6, rfl, hA6, hb6⟩; obtain ⟨hc6, hf6⟩ := bcell hb6; (try simp only [World.heap_drewN, World.cell?_drewN, World.frozen?_drewN] at hc6 hf6); have hz6 := hb6.size; (try simp at hz6); (try have hy6_0 : w.heap.size < w6.heap.size := by omega); (try have hy6_1 : w.heap.size + 1 < w6.heap.size := by omega); (try have hy6_2 : w.heap.size + 2 < w6.heap.size := by omega); (try have hy6_3 : w.heap.size + 3 < w6.heap.size := by omega); (try have hx6_0 : w.heap.size ≤ w6.heap.size := by omega); (try have hx6_1 : w.heap.size + 1 ≤ w6.heap.size := by omega); (try have hx6_2 : w.heap.size + 2 ≤ w6.heap.size := by omega))
  go_wp2_with fail
  ((with_reducible refine (smallMeets_any _ _ _ (hA5.below hb6) hA6).mono ?_); rintro e w7 ⟨rfl, hb7⟩; obtain ⟨hc7, hf7⟩ := bcell hb7; (try simp only [World.heap_drewN, World.cell?_drewN, World.frozen?_drewN] at hc7 hf7); have hz7 := hb7.size; (try simp at hz7); (try have hy7_0 : w.heap.size < w7.heap.size := by omega); (try have hy7_1 : w.heap.size + 1 < w7.heap.size := by omega); (try have hy7_2 : w.heap.size + 2 < w7.heap.size := by omega); (try have hy7_3 : w.heap.size + 3 < w7.heap.size := by omega); (try have hx7_0 : w.heap.size ≤ w7.heap.size := by omega); (try have hx7_1 : w.heap.size + 1 ≤ w7.heap.size := by omega); (try have hx7_2 : w.heap.size + 2 ≤ w7.heap.size := by omega))
  go_wp2_with fail
  have hbw : Below w.heap.size w w7 := by (repeat (first | with_reducible exact Below.refl _ _ | ((with_reducible refine Below.alloc1 ?_ ?_ _); (· first | omega | (simp; done) | (simp; omega))) | (with_reducible refine Below.drew ?_) | (with_reducible refine below_drewN' ?_ _) | ((with_reducible refine Below.setCell1 ?_ ?_ _); (· first | omega | (simp; done) | (simp; omega))) | ((with_reducible refine Below.after (by assumption) ?_ ?_); (· first | omega | (simp; done) | (simp; omega)))))
  have hK : ∀ X : Ext w7, Below w.heap.size w X.w := fun X => hbw.trans (X.b.mono hbw.size)
  (refine wp_region_ext (by kernel_rfl) (by kernel_rfl) ?_; (repeat (go_big_quiet_step (first | (go_at_call 32; with_reducible exact Calls.ext_of (H1 _ (hK _))) | (go_at_call 36; with_reducible exact Calls.ext_of (H2 _ (hK _))) | (go_at_call 34; with_reducible exact Calls.ext_of (H3 _ (hK _))) | (go_at_call 37; with_reducible exact Calls.ext_of (H4 _ (hK _))) | (go_at_call 35; with_reducible exact Calls.ext_of (H5 _ (hK _))) | (go_at_call 38; with_reducible exact Calls.ext_of (H6 _ (hK _)))))); refine wpQuiet_nil ?_; rintro w8 ⟨x8, hx8⟩; have hb8 := x8.b; rw [← hx8] at hb8; clear hx8 x8; obtain ⟨hc8, hf8⟩ := bcell hb8; (try simp only [World.heap_drewN, World.cell?_drewN, World.frozen?_drewN] at hc8 hf8); have hz8 := hb8.size; (try simp at hz8); (try have hy8_0 : w.heap.size < w8.heap.size := by omega); (try have hy8_1 : w.heap.size + 1 < w8.heap.size := by omega); (try have hy8_2 : w.heap.size + 2 < w8.heap.size := by omega); (try have hy8_3 : w.heap.size + 3 < w8.heap.size := by omega); (try have hx8_0 : w.heap.size ≤ w8.heap.size := by omega); (try have hx8_1 : w.heap.size + 1 ≤ w8.heap.size := by omega); (try have hx8_2 : w.heap.size + 2 ≤ w8.heap.size := by omega))
  go_wp2_with fail
  go_ret
  exact ⟨rfl, by (repeat (first | with_reducible exact Below.refl _ _ | ((with_reducible refine Below.alloc1 ?_ ?_ _); (· first | omega | (simp; done) | (simp; omega))) | (with_reducible refine Below.drew ?_) | (with_reducible refine below_drewN' ?_ _) | ((with_reducible refine Below.setCell1 ?_ ?_ _); (· first | omega | (simp; done) | (simp; omega))) | ((with_reducible refine Below.after (by assumption) ?_ ?_); (· first | omega | (simp; done) | (simp; omega)))))⟩

theorem subKeys_walk (x y : SubV) (key : Nat) (w : World) (hx : x.At w) (hy : y.At w) (hk : key < 2 ^ 64) :
    Calls Try.prog 7 #[.agg #[.int .i64 x.s0, .int .i64 x.s1, .int .i64 x.s2, .slice x.ra x.rs.length x.rc, .slice x.sa x.ss.length x.sc, .slice x.wa x.ws.length x.wc], .agg #[.int .i64 y.s0, .int .i64 y.s1, .int .i64 y.s2, .slice y.ra y.rs.length y.rc, .slice y.sa y.ss.length y.sc, .slice y.wa y.ws.length y.wc], .float .f64 key] w (Ret (.bool true) w) :=
  subKeys_w x y key _ _ _ w hk (fun W hb => subReads_any x key W (hx.below hb)) (fun W hb => refReads_any x key W (hx.below hb) hk) (fun W hb => subWrites_any x key W (hx.below hb)) (fun W hb => refWrites_any x key W (hx.below hb))
    (fun W hb => subMeets_any x y W (hx.below hb) (hy.below hb)) (fun W hb => refMeets04_any x y W (hx.below hb) (hy.below hb))
end Go.Proofs.Ytibimhjbhincnaa
