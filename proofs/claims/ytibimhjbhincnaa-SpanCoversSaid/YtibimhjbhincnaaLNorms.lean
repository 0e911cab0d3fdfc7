/- The walk of SpanNorms. -/
import Derived.Test.YtibimhjbhincnaaNU
import Derived.Test.YtibimhjbhincnaaNS
import Derived.Test.YtibimhjbhincnaaL0
namespace Go.Proofs.Ytibimhjbhincnaa.N
set_option linter.unusedVariables false
open Go.RowKit Fl

theorem norm_any (a : Option Addr) (c : Nat) (ss : List SpanV) (n : Nat) (w : World) (hn : ss.length = n) (h : SAt w a ss) (hlen : n ≤ 5864062014634) :
    Calls Try.prog 47 #[.slice a n c] w (NormRet w (joinAll [] (sortK (forms ss)))) :=
  norm_of sortK sortK_len sortK_rises sort_forms a c ss n w hn h hlen
theorem norm_ref (ss : List SpanV) : joinAll [] (sortK (forms ss)) = refAllN [] (forms ss) := norm_same (sortK_mem _) (sortK_rises _)
/-- .. in the document's words. -/
theorem norm_any' (a : Option Addr) (c : Nat) (ss : List SpanV) (n : Nat) (w : World) (hn : ss.length = n) (h : SAt w a ss) (hlen : n ≤ 5864062014634) :
    Calls Try.prog 47 #[.slice a n c] w (NormRet w (refAllN [] (forms ss))) := by
  rw [← norm_ref]; exact norm_any a c ss n w hn h hlen

theorem fO_lit (a b : Nat) (ha : a ≤ inf) (hb : b ≤ inf) (h : a ≤ b) : fO ⟨a, b, false, false⟩ = [⟨klit a ha, klit b hb, by show (a : Int) ≤ b; omega⟩] := fO_some (s := ⟨a, b, false, false⟩) (canonS_lit a b ha hb h)
/-- The statement's example. -/
def ss0 : List SpanV := [⟨4611686018427387904, 4613937818241073152, false, false⟩, ⟨0, 4607182418800017408, false, false⟩, ⟨4607182418800017408, 4611686018427387904, false, false⟩]
def k03 : RK := ⟨klit 0 (by unfold inf; omega), klit 4613937818241073152 (by unfold inf; omega), by show (0 : Int) ≤ 4613937818241073152; omega⟩
theorem ss0_norm : refAllN [] (forms ss0) = [k03] := by
  obtain ⟨h1, h2⟩ := refAllN_spec (forms ss0) [] List.Pairwise.nil
  refine gapped_ext h1 (List.pairwise_singleton _ _) fun v => ?_
  rw [h2]
  have e : forms ss0 = [⟨klit 4611686018427387904 (by unfold inf; omega), klit 4613937818241073152 (by unfold inf; omega), by show (4611686018427387904 : Int) ≤ 4613937818241073152; omega⟩, ⟨klit 0 (by unfold inf; omega), klit 4607182418800017408 (by unfold inf; omega), by show (0 : Int) ≤ 4607182418800017408; omega⟩, ⟨klit 4607182418800017408 (by unfold inf; omega), klit 4611686018427387904 (by unfold inf; omega), by show (4607182418800017408 : Int) ≤ 4611686018427387904; omega⟩] := by
    unfold forms ss0
    simp only [List.flatMap_cons, List.flatMap_nil]
    rw [fO_lit _ _ (by unfold inf; omega) (by unfold inf; omega) (by omega), fO_lit _ _ (by unfold inf; omega) (by unfold inf; omega) (by omega), fO_lit _ _ (by unfold inf; omega) (by unfold inf; omega) (by omega)]
    rfl
  rw [e]
  simp only [covL, List.mem_cons, List.not_mem_nil, or_false, exists_eq_or_imp, exists_eq_left, k03, klit, false_and, exists_false, false_or]
  omega
theorem ss0_at (W : World) : SAt (W.alloc (.cells #[.float .f64 4611686018427387904, .float .f64 4613937818241073152, .bool false, .bool false, .float .f64 0, .float .f64 4607182418800017408, .bool false, .bool false, .float .f64 4607182418800017408, .float .f64 4611686018427387904, .bool false, .bool false] 24)) (some ⟨W.heap.size, 0, none⟩) ss0 := by
  refine ⟨.inr ⟨W.heap.size, 0, rfl, by simp, fun i hi => ?_⟩, fun i hi => ?_, by unfold maxLen; show 3 ≤ _; omega⟩
  · have : i = 0 ∨ i = 1 ∨ i = 2 := by have : i < 3 := hi; omega
    rcases this with rfl | rfl | rfl <;> (simp only [ss0]; refine ⟨?_, ?_, ?_, ?_⟩ <;> go_simp)
  · have : i = 0 ∨ i = 1 ∨ i = 2 := by have : i < 3 := hi; omega
    rcases this with rfl | rfl | rfl <;> simp [ss0]

set_option maxHeartbeats 1000000 in
set_option maxRecDepth 100000 in
theorem spanNorms_walk (a : Option Addr) (n c : Nat) (ss : List SpanV) (w : World) (hn : ss.length = n) (h : SAt w a ss) (hlen : n ≤ 5864062014634) :
    Calls Try.prog 13 #[.slice a n c] w (Ret (.bool true) w) := by
  have HN := hid hn; have HS := hid h
  have h1 := feq_lit 0 (by unfold inf; omega)
  have h2 := feq_lit 4613937818241073152 (by unfold inf; omega)
  clear hn h
  go_enter Try.func13, Try.ntmps13
  go_wp2_with (go_at_call 25; (with_reducible refine (at_any _ _ _).mono ?_); rintro e w1 ⟨rfl, hb1⟩; obtain ⟨hc1, hf1⟩ := bcell hb1; (try simp only [World.heap_drewN, World.cell?_drewN, World.frozen?_drewN] at hc1 hf1); have hz1 := hb1.size; (try simp at hz1); (try have hy1_0 : w.heap.size < w1.heap.size := by omega); (try have hy1_1 : w.heap.size + 1 < w1.heap.size := by omega); (try have hy1_2 : w.heap.size + 2 < w1.heap.size := by omega); (try have hy1_3 : w.heap.size + 3 < w1.heap.size := by omega); (try have hx1_0 : w.heap.size ≤ w1.heap.size := by omega); (try have hx1_1 : w.heap.size + 1 ≤ w1.heap.size := by omega); (try have hx1_2 : w.heap.size + 2 ≤ w1.heap.size := by omega))
  refine (norm_any' _ _ ss0 3 _ rfl (ss0_at _) (by omega)).mono ?_
  rw [ss0_norm]
  rintro e w2 ⟨a2, c2, rfl, hown2, hb2⟩
  have hbx : Below w.heap.size w w2 := by (repeat (first | with_reducible exact Below.refl _ _ | ((with_reducible refine Below.alloc1 ?_ ?_ _); (· first | omega | (simp; done) | (simp; omega))) | (with_reducible refine Below.drew ?_) | (with_reducible refine below_drewN' ?_ _) | ((with_reducible refine Below.setCell1 ?_ ?_ _); (· first | omega | (simp; done) | (simp; omega))) | ((with_reducible refine Below.after (by assumption) ?_ ?_); (· first | omega | (simp; done) | (simp; omega)))))
  simp only [List.length_cons, List.length_nil, Nat.zero_add] at hown2 ⊢
  rcases hown2.2 with ⟨q1, q2⟩ | ⟨g2, cap2, cur2, q1, _⟩
  · omega
  cases q1
  have hcl2 := hown2.cells (g := g2) rfl
  have hgl2 := (hown2.lt g2 rfl).2
  have x0 : w2.cell? ⟨g2, 0, none⟩ = some (.float .f64 0) := by rw [show (0 : Nat) = (klit 0 (by unfold inf; omega)).bits from (klit_bits _ _).symm]; exact hcl2 0 _ rfl
  have x1 : w2.cell? ⟨g2, 1, none⟩ = some (.float .f64 4613937818241073152) := by rw [show (4613937818241073152 : Nat) = (klit 4613937818241073152 (by unfold inf; omega)).bits from (klit_bits _ _).symm]; exact hcl2 1 _ rfl
  have x2 : w2.cell? ⟨g2, 2, none⟩ = some (.bool false) := hcl2 2 _ rfl
  have x3 : w2.cell? ⟨g2, 3, none⟩ = some (.bool false) := hcl2 3 _ rfl
  clear hcl2 hown2 hb1 hc1 hf1 hb2
  have hz2 := hbx.size
  go_wp2_with fail
  (refine wp_region_ext (by kernel_rfl) (by kernel_rfl) ?_; (repeat (go_big_quiet_step (first | (go_at_call 25; with_reducible exact Calls.ext_of (at_any _ _ _))))); refine wpQuiet_nil ?_; rintro w3 ⟨x3, hx3⟩; have hb3 := x3.b; rw [← hx3] at hb3; clear hx3 x3; obtain ⟨hc3, hf3⟩ := bcell hb3; (try simp only [World.heap_drewN, World.cell?_drewN, World.frozen?_drewN] at hc3 hf3); have hz3 := hb3.size; (try simp at hz3); (try have hy3_0 : w.heap.size < w3.heap.size := by omega); (try have hy3_1 : w.heap.size + 1 < w3.heap.size := by omega); (try have hy3_2 : w.heap.size + 2 < w3.heap.size := by omega); (try have hy3_3 : w.heap.size + 3 < w3.heap.size := by omega); (try have hx3_0 : w.heap.size ≤ w3.heap.size := by omega); (try have hx3_1 : w.heap.size + 1 ≤ w3.heap.size := by omega); (try have hx3_2 : w.heap.size + 2 ≤ w3.heap.size := by omega); (try have hu3_w2_0 : w2.heap.size < w3.heap.size := by omega); (try have hu3_w2_1 : w2.heap.size + 1 < w3.heap.size := by omega))
  have hb3' : Below w.heap.size w w3 := by (repeat (first | with_reducible exact Below.refl _ _ | ((with_reducible refine Below.alloc1 ?_ ?_ _); (· first | omega | (simp; done) | (simp; omega))) | (with_reducible refine Below.drew ?_) | (with_reducible refine below_drewN' ?_ _) | ((with_reducible refine Below.setCell1 ?_ ?_ _); (· first | omega | (simp; done) | (simp; omega))) | ((with_reducible refine Below.after (by assumption) ?_ ?_); (· first | omega | (simp; done) | (simp; omega)))))
  clear hc3 hf3 hb3 x0 x1 x2 x3 h1 h2
  go_upto_region 4 with fail
  obtain ⟨a4, c4, w4, hr4, hown4, hb4⟩ := copy_all w3 a c n ss HN.out (HS.out.below hb3') (by omega)
  go_upto_region 5 with (at_builtin; refine Lib.wpList_append_run _ rfl _ _ _ _ rfl _ _ rfl rfl _ _ (hr4 _) ?_)
  have hb4' : Below w.heap.size w w4 := hb3'.trans (hb4.mono hb3'.size)
  have HS4 := HS.out.below hb4'
  have hwas := own_satV HN.out hown4 (by omega) HS.out.lt
  clear hown4 hr4
  go_wp2_with fail
  refine (norm_any' a c ss n w4 HN.out HS4 (by omega)).mono ?_
  rintro e w5 ⟨a5, c5, rfl, hown5, hb5⟩
  have HS5 := HS4.below hb5
  have hGl : (refAllN [] (forms ss)).length ≤ n := by
    have h1 := refAllN_len (forms ss) []
    have h2 := forms_le ss
    rw [HN.out] at h2
    simp at h1; omega
  go_wp2_with fail
  refine (refNorm_any a c ss n w5 HN.out HS5 hlen).mono ?_
  generalize refAllN [] (forms ss) = G at *
  rintro e w6 ⟨a6, c6, rfl, hown6, hb6⟩
  have HG := hid hGl
  go_wp2_with fail
  refine (refSpans_any a6 c6 _ G w6 hown6 (by omega)).mono ?_
  rintro e w7 ⟨a7, c7, rfl, hown7, hb7⟩
  have hb57 : Below w5.heap.size w5 w7 := hb6.trans (hb7.mono hb6.size)
  have hs7 := own_sat hown7 (by omega)
  have hs5 := (own_sat hown5 (by omega)).below hb57
  go_wp2_with fail
  refine (refSameS_any a5 a7 c5 c7 G.length G.length (G.map RK.raw) (G.map RK.raw) true w7 (by simp) (by simp) hs5 hs7 (by simp)).mono ?_
  rintro e w8 ⟨rfl, hb8⟩
  have hb48 : Below w4.heap.size w4 w8 := hb5.trans ((hb57.trans (hb8.mono hb57.size)).mono hb5.size)
  have hown8 := hown5.kept (grown_of_below (hb57.trans (hb8.mono hb57.size))) (by cases (Value.slice a5 G.length c5).ownBlock <;> simp)
  have H8 := hid hown8
  generalize sCells G = xs0 at *
  generalize G.length = m at *
  clear hs7 hs5 hown5 hown6 hown7 hown8 HS5 HS4 hb57
  go_wp2_with fail
  go_loopw [35] (fun iv wr => ∃ (i : Nat) (xs : List Value), i ≤ m ∧ iv = .int .i64 i ∧ Hid (wr.ownsRow w4.heap.size 24 4 (.slice a5 m c5) m xs) ∧ Below w4.heap.size w4 wr) (fun iv _ => m - (intOf iv).toNat)
  case atStart => exact ⟨0, xs0, Nat.zero_le _, rfl, H8, hb48⟩
  case round =>
    obtain ⟨i, xs, him, rfl, HO, hb⟩ := hrel
    have hz := hb.size
    by_cases hlt : i < m
    · have hlt' : (i : Int) < (m : Int) := by omega
      rcases HO.out.2 with ⟨q1, q2⟩ | ⟨g5, cap5, cur5, q1, hbg, _⟩
      · omega
      cases q1
      have hgl := (HO.out.lt g5 rfl).2
      obtain ⟨hth, hfz⟩ := own_there hlt HO.out
      obtain ⟨v0, y0⟩ := hth 0 (by omega)
      obtain ⟨v1, y1⟩ := hth 1 (by omega)
      obtain ⟨v2, y2⟩ := hth 2 (by omega)
      obtain ⟨v3, y3⟩ := hth 3 (by omega)
      rw [Nat.add_zero] at y0
      go_wp2_with (go_at_call 25; (with_reducible refine (at_any _ _ _).mono ?_); rintro e w9 ⟨rfl, hb9⟩; obtain ⟨hc9, hf9⟩ := bcell hb9; (try simp only [World.heap_drewN, World.cell?_drewN, World.frozen?_drewN] at hc9 hf9); have hz9 := hb9.size; (try simp at hz9); (try have hy9_0 : w.heap.size < w9.heap.size := by omega); (try have hy9_1 : w.heap.size + 1 < w9.heap.size := by omega); (try have hy9_2 : w.heap.size + 2 < w9.heap.size := by omega); (try have hy9_3 : w.heap.size + 3 < w9.heap.size := by omega); (try have hx9_0 : w.heap.size ≤ w9.heap.size := by omega); (try have hx9_1 : w.heap.size + 1 ≤ w9.heap.size := by omega); (try have hx9_2 : w.heap.size + 2 ≤ w9.heap.size := by omega); (try have hu9_wr_0 : wr.heap.size < w9.heap.size := by omega); (try have hu9_wr_1 : wr.heap.size + 1 < w9.heap.size := by omega))
      have hown9 := HO.out.kept (grown_of_below hb9) (by cases (Value.slice (some ⟨g5, 0, none⟩) m c5).ownBlock <;> simp)
      obtain ⟨xs', hox, hgx⟩ := own_any4 (.float .f64 4619567317775286272) (.float .f64 4619567317775286272) (.bool false) (.bool false) hlt hown9
      have Hbx := hid ((hb.trans (hb9.mono hz)).grown hgx (Nat.le_trans hz hb9.size) (fun k hk => by cases hk; exact hbg))
      have HOX := hid hox
      clear hox hgx hown9
      go_wp2_with fail
      go_roundw
      case rel => exact ⟨i + 1, xs', by omega, by go_num, HOX, Hbx.out⟩
      case measure => simp [intOf]; omega
    · obtain rfl : i = m := by omega
      have hbw : Below w.heap.size w wr := hb4'.trans (hb.mono hb4'.size)
      have h1 := HS.out.below hbw
      have h2 := hwas.below hb
      go_wp2_with fail
      refine (refSameS_any a a4 c c4 n n ss ss true wr HN.out HN.out h1 h2 (by simp)).mono ?_
      rintro e w10 ⟨rfl, hb10⟩
      go_wp2_with fail
      go_ret
      exact ⟨rfl, hbw.trans (hb10.mono hbw.size)⟩
end Go.Proofs.Ytibimhjbhincnaa.N
