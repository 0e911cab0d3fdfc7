/- Walks of the references: Cmp. -/
import Derived.Test.YtibimhjbhincnaaG0
import Derived.Test.YtibimhjbhincnaaB2
namespace Go.Proofs.Ytibimhjbhincnaa
set_option linter.unusedVariables false
open Go.RowKit Fl

set_option maxRecDepth 100000 in
theorem refCmp_nn (w : World) :
    Calls Try.prog 40 #[.agg #[.int .u64 1, .int .u64 0], .agg #[.int .u64 1, .int .u64 0]] w (Ret (.int .i64 0) w) := by
  go_enter Try.func40, Try.ntmps40
  go_wp2_with (first | (go_at_call 21; (with_reducible refine (refEmpty_none _).mono ?_); rintro e w1 ⟨rfl, hb1⟩; obtain ⟨hc1, hf1⟩ := bcell hb1; (try simp only [World.heap_drewN, World.cell?_drewN, World.frozen?_drewN] at hc1 hf1); have hz1 := hb1.size; (try simp at hz1); (try have hy1_0 : w.heap.size < w1.heap.size := by omega); (try have hy1_1 : w.heap.size + 1 < w1.heap.size := by omega); (try have hy1_2 : w.heap.size + 2 < w1.heap.size := by omega); (try have hy1_3 : w.heap.size + 3 < w1.heap.size := by omega); (try have hx1_0 : w.heap.size ≤ w1.heap.size := by omega); (try have hx1_1 : w.heap.size + 1 ≤ w1.heap.size := by omega); (try have hx1_2 : w.heap.size + 2 ≤ w1.heap.size := by omega)))
  go_ret
  exact ⟨ret_int rfl, by (repeat (first | with_reducible exact Below.refl _ _ | ((with_reducible refine Below.alloc1 ?_ ?_ _); (· first | omega | (simp; done) | (simp; omega))) | (with_reducible refine Below.drew ?_) | (with_reducible refine below_drewN' ?_ _) | ((with_reducible refine Below.setCell1 ?_ ?_ _); (· first | omega | (simp; done) | (simp; omega))) | ((with_reducible refine Below.after (by assumption) ?_ ?_); (· first | omega | (simp; done) | (simp; omega)))))⟩

set_option maxRecDepth 100000 in
theorem refCmp_ns (l' h' : Key) (H2 : Hid (l'.v ≤ h'.v)) (w : World) :
    Calls Try.prog 40 #[.agg #[.int .u64 1, .int .u64 0], .agg #[.int .u64 (kcode l'), .int .u64 (kcode h')]] w (Ret (.int .i64 (-1)) w) := by
  go_enter Try.func40, Try.ntmps40
  go_wp2_with (first | (go_at_call 21; (with_reducible refine (refEmpty_none _).mono ?_); rintro e w1 ⟨rfl, hb1⟩; obtain ⟨hc1, hf1⟩ := bcell hb1; (try simp only [World.heap_drewN, World.cell?_drewN, World.frozen?_drewN] at hc1 hf1); have hz1 := hb1.size; (try simp at hz1); (try have hy1_0 : w.heap.size < w1.heap.size := by omega); (try have hy1_1 : w.heap.size + 1 < w1.heap.size := by omega); (try have hy1_2 : w.heap.size + 2 < w1.heap.size := by omega); (try have hy1_3 : w.heap.size + 3 < w1.heap.size := by omega); (try have hx1_0 : w.heap.size ≤ w1.heap.size := by omega); (try have hx1_1 : w.heap.size + 1 ≤ w1.heap.size := by omega); (try have hx1_2 : w.heap.size + 2 ≤ w1.heap.size := by omega)) | (go_at_call 21; (with_reducible refine (refEmpty_some l' h' H2 _).mono ?_); rintro e w3 ⟨rfl, hb3⟩; obtain ⟨hc3, hf3⟩ := bcell hb3; (try simp only [World.heap_drewN, World.cell?_drewN, World.frozen?_drewN] at hc3 hf3); have hz3 := hb3.size; (try simp at hz3); (try have hy3_0 : w.heap.size < w3.heap.size := by omega); (try have hy3_1 : w.heap.size + 1 < w3.heap.size := by omega); (try have hy3_2 : w.heap.size + 2 < w3.heap.size := by omega); (try have hy3_3 : w.heap.size + 3 < w3.heap.size := by omega); (try have hx3_0 : w.heap.size ≤ w3.heap.size := by omega); (try have hx3_1 : w.heap.size + 1 ≤ w3.heap.size := by omega); (try have hx3_2 : w.heap.size + 2 ≤ w3.heap.size := by omega)))
  go_ret
  exact ⟨ret_int rfl, by (repeat (first | with_reducible exact Below.refl _ _ | ((with_reducible refine Below.alloc1 ?_ ?_ _); (· first | omega | (simp; done) | (simp; omega))) | (with_reducible refine Below.drew ?_) | (with_reducible refine below_drewN' ?_ _) | ((with_reducible refine Below.setCell1 ?_ ?_ _); (· first | omega | (simp; done) | (simp; omega))) | ((with_reducible refine Below.after (by assumption) ?_ ?_); (· first | omega | (simp; done) | (simp; omega)))))⟩

set_option maxRecDepth 100000 in
theorem refCmp_sn (l h : Key) (H1 : Hid (l.v ≤ h.v)) (w : World) :
    Calls Try.prog 40 #[.agg #[.int .u64 (kcode l), .int .u64 (kcode h)], .agg #[.int .u64 1, .int .u64 0]] w (Ret (.int .i64 1) w) := by
  go_enter Try.func40, Try.ntmps40
  go_wp2_with (first | (go_at_call 21; (with_reducible refine (refEmpty_none _).mono ?_); rintro e w1 ⟨rfl, hb1⟩; obtain ⟨hc1, hf1⟩ := bcell hb1; (try simp only [World.heap_drewN, World.cell?_drewN, World.frozen?_drewN] at hc1 hf1); have hz1 := hb1.size; (try simp at hz1); (try have hy1_0 : w.heap.size < w1.heap.size := by omega); (try have hy1_1 : w.heap.size + 1 < w1.heap.size := by omega); (try have hy1_2 : w.heap.size + 2 < w1.heap.size := by omega); (try have hy1_3 : w.heap.size + 3 < w1.heap.size := by omega); (try have hx1_0 : w.heap.size ≤ w1.heap.size := by omega); (try have hx1_1 : w.heap.size + 1 ≤ w1.heap.size := by omega); (try have hx1_2 : w.heap.size + 2 ≤ w1.heap.size := by omega)) | (go_at_call 21; (with_reducible refine (refEmpty_some l h H1 _).mono ?_); rintro e w2 ⟨rfl, hb2⟩; obtain ⟨hc2, hf2⟩ := bcell hb2; (try simp only [World.heap_drewN, World.cell?_drewN, World.frozen?_drewN] at hc2 hf2); have hz2 := hb2.size; (try simp at hz2); (try have hy2_0 : w.heap.size < w2.heap.size := by omega); (try have hy2_1 : w.heap.size + 1 < w2.heap.size := by omega); (try have hy2_2 : w.heap.size + 2 < w2.heap.size := by omega); (try have hy2_3 : w.heap.size + 3 < w2.heap.size := by omega); (try have hx2_0 : w.heap.size ≤ w2.heap.size := by omega); (try have hx2_1 : w.heap.size + 1 ≤ w2.heap.size := by omega); (try have hx2_2 : w.heap.size + 2 ≤ w2.heap.size := by omega)))
  go_ret
  exact ⟨ret_int rfl, by (repeat (first | with_reducible exact Below.refl _ _ | ((with_reducible refine Below.alloc1 ?_ ?_ _); (· first | omega | (simp; done) | (simp; omega))) | (with_reducible refine Below.drew ?_) | (with_reducible refine below_drewN' ?_ _) | ((with_reducible refine Below.setCell1 ?_ ?_ _); (· first | omega | (simp; done) | (simp; omega))) | ((with_reducible refine Below.after (by assumption) ?_ ?_); (· first | omega | (simp; done) | (simp; omega)))))⟩

set_option maxRecDepth 100000 in
theorem refCmp_sA (l h : Key) (H1 : Hid (l.v ≤ h.v)) (l' h' : Key) (H2 : Hid (l'.v ≤ h'.v)) (T1 : decide (kcode l < kcode l') = true) (w : World) :
    Calls Try.prog 40 #[.agg #[.int .u64 (kcode l), .int .u64 (kcode h)], .agg #[.int .u64 (kcode l'), .int .u64 (kcode h')]] w (Ret (.int .i64 (-1)) w) := by
  go_enter Try.func40, Try.ntmps40
  go_wp2_with (first | (go_at_call 21; (with_reducible refine (refEmpty_some l h H1 _).mono ?_); rintro e w2 ⟨rfl, hb2⟩; obtain ⟨hc2, hf2⟩ := bcell hb2; (try simp only [World.heap_drewN, World.cell?_drewN, World.frozen?_drewN] at hc2 hf2); have hz2 := hb2.size; (try simp at hz2); (try have hy2_0 : w.heap.size < w2.heap.size := by omega); (try have hy2_1 : w.heap.size + 1 < w2.heap.size := by omega); (try have hy2_2 : w.heap.size + 2 < w2.heap.size := by omega); (try have hy2_3 : w.heap.size + 3 < w2.heap.size := by omega); (try have hx2_0 : w.heap.size ≤ w2.heap.size := by omega); (try have hx2_1 : w.heap.size + 1 ≤ w2.heap.size := by omega); (try have hx2_2 : w.heap.size + 2 ≤ w2.heap.size := by omega)) | (go_at_call 21; (with_reducible refine (refEmpty_some l' h' H2 _).mono ?_); rintro e w3 ⟨rfl, hb3⟩; obtain ⟨hc3, hf3⟩ := bcell hb3; (try simp only [World.heap_drewN, World.cell?_drewN, World.frozen?_drewN] at hc3 hf3); have hz3 := hb3.size; (try simp at hz3); (try have hy3_0 : w.heap.size < w3.heap.size := by omega); (try have hy3_1 : w.heap.size + 1 < w3.heap.size := by omega); (try have hy3_2 : w.heap.size + 2 < w3.heap.size := by omega); (try have hy3_3 : w.heap.size + 3 < w3.heap.size := by omega); (try have hx3_0 : w.heap.size ≤ w3.heap.size := by omega); (try have hx3_1 : w.heap.size + 1 ≤ w3.heap.size := by omega); (try have hx3_2 : w.heap.size + 2 ≤ w3.heap.size := by omega)))
  go_ret
  exact ⟨ret_int rfl, by (repeat (first | with_reducible exact Below.refl _ _ | ((with_reducible refine Below.alloc1 ?_ ?_ _); (· first | omega | (simp; done) | (simp; omega))) | (with_reducible refine Below.drew ?_) | (with_reducible refine below_drewN' ?_ _) | ((with_reducible refine Below.setCell1 ?_ ?_ _); (· first | omega | (simp; done) | (simp; omega))) | ((with_reducible refine Below.after (by assumption) ?_ ?_); (· first | omega | (simp; done) | (simp; omega)))))⟩

set_option maxRecDepth 100000 in
theorem refCmp_sB (l h : Key) (H1 : Hid (l.v ≤ h.v)) (l' h' : Key) (H2 : Hid (l'.v ≤ h'.v)) (T1 : decide (kcode l < kcode l') = false) (T2 : (kcode l == kcode l') = true) (T3 : decide (kcode h < kcode h') = true) (w : World) :
    Calls Try.prog 40 #[.agg #[.int .u64 (kcode l), .int .u64 (kcode h)], .agg #[.int .u64 (kcode l'), .int .u64 (kcode h')]] w (Ret (.int .i64 (-1)) w) := by
  go_enter Try.func40, Try.ntmps40
  go_wp2_with (first | (go_at_call 21; (with_reducible refine (refEmpty_some l h H1 _).mono ?_); rintro e w2 ⟨rfl, hb2⟩; obtain ⟨hc2, hf2⟩ := bcell hb2; (try simp only [World.heap_drewN, World.cell?_drewN, World.frozen?_drewN] at hc2 hf2); have hz2 := hb2.size; (try simp at hz2); (try have hy2_0 : w.heap.size < w2.heap.size := by omega); (try have hy2_1 : w.heap.size + 1 < w2.heap.size := by omega); (try have hy2_2 : w.heap.size + 2 < w2.heap.size := by omega); (try have hy2_3 : w.heap.size + 3 < w2.heap.size := by omega); (try have hx2_0 : w.heap.size ≤ w2.heap.size := by omega); (try have hx2_1 : w.heap.size + 1 ≤ w2.heap.size := by omega); (try have hx2_2 : w.heap.size + 2 ≤ w2.heap.size := by omega)) | (go_at_call 21; (with_reducible refine (refEmpty_some l' h' H2 _).mono ?_); rintro e w3 ⟨rfl, hb3⟩; obtain ⟨hc3, hf3⟩ := bcell hb3; (try simp only [World.heap_drewN, World.cell?_drewN, World.frozen?_drewN] at hc3 hf3); have hz3 := hb3.size; (try simp at hz3); (try have hy3_0 : w.heap.size < w3.heap.size := by omega); (try have hy3_1 : w.heap.size + 1 < w3.heap.size := by omega); (try have hy3_2 : w.heap.size + 2 < w3.heap.size := by omega); (try have hy3_3 : w.heap.size + 3 < w3.heap.size := by omega); (try have hx3_0 : w.heap.size ≤ w3.heap.size := by omega); (try have hx3_1 : w.heap.size + 1 ≤ w3.heap.size := by omega); (try have hx3_2 : w.heap.size + 2 ≤ w3.heap.size := by omega)))
  go_ret
  exact ⟨ret_int rfl, by (repeat (first | with_reducible exact Below.refl _ _ | ((with_reducible refine Below.alloc1 ?_ ?_ _); (· first | omega | (simp; done) | (simp; omega))) | (with_reducible refine Below.drew ?_) | (with_reducible refine below_drewN' ?_ _) | ((with_reducible refine Below.setCell1 ?_ ?_ _); (· first | omega | (simp; done) | (simp; omega))) | ((with_reducible refine Below.after (by assumption) ?_ ?_); (· first | omega | (simp; done) | (simp; omega)))))⟩

set_option maxRecDepth 100000 in
theorem refCmp_sC (l h : Key) (H1 : Hid (l.v ≤ h.v)) (l' h' : Key) (H2 : Hid (l'.v ≤ h'.v)) (T1 : decide (kcode l < kcode l') = false) (T2 : (kcode l == kcode l') = true) (T3 : decide (kcode h < kcode h') = false) (T4 : (kcode h == kcode h') = true) (w : World) :
    Calls Try.prog 40 #[.agg #[.int .u64 (kcode l), .int .u64 (kcode h)], .agg #[.int .u64 (kcode l'), .int .u64 (kcode h')]] w (Ret (.int .i64 0) w) := by
  go_enter Try.func40, Try.ntmps40
  go_wp2_with (first | (go_at_call 21; (with_reducible refine (refEmpty_some l h H1 _).mono ?_); rintro e w2 ⟨rfl, hb2⟩; obtain ⟨hc2, hf2⟩ := bcell hb2; (try simp only [World.heap_drewN, World.cell?_drewN, World.frozen?_drewN] at hc2 hf2); have hz2 := hb2.size; (try simp at hz2); (try have hy2_0 : w.heap.size < w2.heap.size := by omega); (try have hy2_1 : w.heap.size + 1 < w2.heap.size := by omega); (try have hy2_2 : w.heap.size + 2 < w2.heap.size := by omega); (try have hy2_3 : w.heap.size + 3 < w2.heap.size := by omega); (try have hx2_0 : w.heap.size ≤ w2.heap.size := by omega); (try have hx2_1 : w.heap.size + 1 ≤ w2.heap.size := by omega); (try have hx2_2 : w.heap.size + 2 ≤ w2.heap.size := by omega)) | (go_at_call 21; (with_reducible refine (refEmpty_some l' h' H2 _).mono ?_); rintro e w3 ⟨rfl, hb3⟩; obtain ⟨hc3, hf3⟩ := bcell hb3; (try simp only [World.heap_drewN, World.cell?_drewN, World.frozen?_drewN] at hc3 hf3); have hz3 := hb3.size; (try simp at hz3); (try have hy3_0 : w.heap.size < w3.heap.size := by omega); (try have hy3_1 : w.heap.size + 1 < w3.heap.size := by omega); (try have hy3_2 : w.heap.size + 2 < w3.heap.size := by omega); (try have hy3_3 : w.heap.size + 3 < w3.heap.size := by omega); (try have hx3_0 : w.heap.size ≤ w3.heap.size := by omega); (try have hx3_1 : w.heap.size + 1 ≤ w3.heap.size := by omega); (try have hx3_2 : w.heap.size + 2 ≤ w3.heap.size := by omega)))
  go_ret
  exact ⟨ret_int rfl, by (repeat (first | with_reducible exact Below.refl _ _ | ((with_reducible refine Below.alloc1 ?_ ?_ _); (· first | omega | (simp; done) | (simp; omega))) | (with_reducible refine Below.drew ?_) | (with_reducible refine below_drewN' ?_ _) | ((with_reducible refine Below.setCell1 ?_ ?_ _); (· first | omega | (simp; done) | (simp; omega))) | ((with_reducible refine Below.after (by assumption) ?_ ?_); (· first | omega | (simp; done) | (simp; omega)))))⟩

set_option maxRecDepth 100000 in
theorem refCmp_sD (l h : Key) (H1 : Hid (l.v ≤ h.v)) (l' h' : Key) (H2 : Hid (l'.v ≤ h'.v)) (T1 : decide (kcode l < kcode l') = false) (T2 : (kcode l == kcode l') = true) (T3 : decide (kcode h < kcode h') = false) (T4 : (kcode h == kcode h') = false) (w : World) :
    Calls Try.prog 40 #[.agg #[.int .u64 (kcode l), .int .u64 (kcode h)], .agg #[.int .u64 (kcode l'), .int .u64 (kcode h')]] w (Ret (.int .i64 1) w) := by
  go_enter Try.func40, Try.ntmps40
  go_wp2_with (first | (go_at_call 21; (with_reducible refine (refEmpty_some l h H1 _).mono ?_); rintro e w2 ⟨rfl, hb2⟩; obtain ⟨hc2, hf2⟩ := bcell hb2; (try simp only [World.heap_drewN, World.cell?_drewN, World.frozen?_drewN] at hc2 hf2); have hz2 := hb2.size; (try simp at hz2); (try have hy2_0 : w.heap.size < w2.heap.size := by omega); (try have hy2_1 : w.heap.size + 1 < w2.heap.size := by omega); (try have hy2_2 : w.heap.size + 2 < w2.heap.size := by omega); (try have hy2_3 : w.heap.size + 3 < w2.heap.size := by omega); (try have hx2_0 : w.heap.size ≤ w2.heap.size := by omega); (try have hx2_1 : w.heap.size + 1 ≤ w2.heap.size := by omega); (try have hx2_2 : w.heap.size + 2 ≤ w2.heap.size := by omega)) | (go_at_call 21; (with_reducible refine (refEmpty_some l' h' H2 _).mono ?_); rintro e w3 ⟨rfl, hb3⟩; obtain ⟨hc3, hf3⟩ := bcell hb3; (try simp only [World.heap_drewN, World.cell?_drewN, World.frozen?_drewN] at hc3 hf3); have hz3 := hb3.size; (try simp at hz3); (try have hy3_0 : w.heap.size < w3.heap.size := by omega); (try have hy3_1 : w.heap.size + 1 < w3.heap.size := by omega); (try have hy3_2 : w.heap.size + 2 < w3.heap.size := by omega); (try have hy3_3 : w.heap.size + 3 < w3.heap.size := by omega); (try have hx3_0 : w.heap.size ≤ w3.heap.size := by omega); (try have hx3_1 : w.heap.size + 1 ≤ w3.heap.size := by omega); (try have hx3_2 : w.heap.size + 2 ≤ w3.heap.size := by omega)))
  go_ret
  exact ⟨ret_int rfl, by (repeat (first | with_reducible exact Below.refl _ _ | ((with_reducible refine Below.alloc1 ?_ ?_ _); (· first | omega | (simp; done) | (simp; omega))) | (with_reducible refine Below.drew ?_) | (with_reducible refine below_drewN' ?_ _) | ((with_reducible refine Below.setCell1 ?_ ?_ _); (· first | omega | (simp; done) | (simp; omega))) | ((with_reducible refine Below.after (by assumption) ?_ ?_); (· first | omega | (simp; done) | (simp; omega)))))⟩

set_option maxRecDepth 100000 in
theorem refCmp_sE (l h : Key) (H1 : Hid (l.v ≤ h.v)) (l' h' : Key) (H2 : Hid (l'.v ≤ h'.v)) (T1 : decide (kcode l < kcode l') = false) (T2 : (kcode l == kcode l') = false) (w : World) :
    Calls Try.prog 40 #[.agg #[.int .u64 (kcode l), .int .u64 (kcode h)], .agg #[.int .u64 (kcode l'), .int .u64 (kcode h')]] w (Ret (.int .i64 1) w) := by
  go_enter Try.func40, Try.ntmps40
  go_wp2_with (first | (go_at_call 21; (with_reducible refine (refEmpty_some l h H1 _).mono ?_); rintro e w2 ⟨rfl, hb2⟩; obtain ⟨hc2, hf2⟩ := bcell hb2; (try simp only [World.heap_drewN, World.cell?_drewN, World.frozen?_drewN] at hc2 hf2); have hz2 := hb2.size; (try simp at hz2); (try have hy2_0 : w.heap.size < w2.heap.size := by omega); (try have hy2_1 : w.heap.size + 1 < w2.heap.size := by omega); (try have hy2_2 : w.heap.size + 2 < w2.heap.size := by omega); (try have hy2_3 : w.heap.size + 3 < w2.heap.size := by omega); (try have hx2_0 : w.heap.size ≤ w2.heap.size := by omega); (try have hx2_1 : w.heap.size + 1 ≤ w2.heap.size := by omega); (try have hx2_2 : w.heap.size + 2 ≤ w2.heap.size := by omega)) | (go_at_call 21; (with_reducible refine (refEmpty_some l' h' H2 _).mono ?_); rintro e w3 ⟨rfl, hb3⟩; obtain ⟨hc3, hf3⟩ := bcell hb3; (try simp only [World.heap_drewN, World.cell?_drewN, World.frozen?_drewN] at hc3 hf3); have hz3 := hb3.size; (try simp at hz3); (try have hy3_0 : w.heap.size < w3.heap.size := by omega); (try have hy3_1 : w.heap.size + 1 < w3.heap.size := by omega); (try have hy3_2 : w.heap.size + 2 < w3.heap.size := by omega); (try have hy3_3 : w.heap.size + 3 < w3.heap.size := by omega); (try have hx3_0 : w.heap.size ≤ w3.heap.size := by omega); (try have hx3_1 : w.heap.size + 1 ≤ w3.heap.size := by omega); (try have hx3_2 : w.heap.size + 2 ≤ w3.heap.size := by omega)))
  go_ret
  exact ⟨ret_int rfl, by (repeat (first | with_reducible exact Below.refl _ _ | ((with_reducible refine Below.alloc1 ?_ ?_ _); (· first | omega | (simp; done) | (simp; omega))) | (with_reducible refine Below.drew ?_) | (with_reducible refine below_drewN' ?_ _) | ((with_reducible refine Below.setCell1 ?_ ?_ _); (· first | omega | (simp; done) | (simp; omega))) | ((with_reducible refine Below.after (by assumption) ?_ ?_); (· first | omega | (simp; done) | (simp; omega)))))⟩

theorem cmpR_ss (l h l' h' : Key) : cmpR (some (l, h)) (some (l', h')) = if l.v < l'.v then -1 else if l'.v < l.v then 1 else if h.v < h'.v then -1 else if h'.v < h.v then 1 else 0 := by
  unfold cmpR orI cmpI
  by_cases h1 : l.v < l'.v
  · simp [h1]
  · by_cases h2 : l'.v < l.v
    · simp [h1, h2]
    · simp [h1, h2]

theorem refCmp_ss (l h l' h' : Key) (H1 : Hid (l.v ≤ h.v)) (H2 : Hid (l'.v ≤ h'.v)) (w : World) :
    Calls Try.prog 40 #[.agg #[.int .u64 (kcode l), .int .u64 (kcode h)], .agg #[.int .u64 (kcode l'), .int .u64 (kcode h')]] w (Ret (.int .i64 (cmpR (some (l, h)) (some (l', h')))) w) := by
  rw [cmpR_ss]
  have e1 := kcode_lt l l'; have e2 := kcode_eq l l'; have e3 := kcode_lt h h'; have e4 := kcode_eq h h'
  by_cases c1 : l.v < l'.v
  · rw [if_pos c1]
    exact refCmp_sA l h H1 l' h' H2 (by simp [e1, c1]) w
  · rw [if_neg c1]
    by_cases c2 : l'.v < l.v
    · rw [if_pos c2]
      exact refCmp_sE l h H1 l' h' H2 (by rw [decide_eq_false_iff_not, e1]; exact c1) (by rw [beq_eq_false_iff_ne, Ne, e2]; omega) w
    · rw [if_neg c2]
      have T1 : decide (kcode l < kcode l') = false := by rw [decide_eq_false_iff_not, e1]; exact c1
      have T2 : (kcode l == kcode l') = true := by rw [beq_iff_eq, e2]; omega
      by_cases c3 : h.v < h'.v
      · rw [if_pos c3]
        exact refCmp_sB l h H1 l' h' H2 T1 T2 (by simp [e3, c3]) w
      · rw [if_neg c3]
        have T3 : decide (kcode h < kcode h') = false := by rw [decide_eq_false_iff_not, e3]; exact c3
        by_cases c4 : h'.v < h.v
        · rw [if_pos c4]
          exact refCmp_sD l h H1 l' h' H2 T1 T2 T3 (by rw [beq_eq_false_iff_ne, Ne, e4]; omega) w
        · rw [if_neg c4]
          exact refCmp_sC l h H1 l' h' H2 T1 T2 T3 (by rw [beq_iff_eq, e4]; omega) w
end Go.Proofs.Ytibimhjbhincnaa
