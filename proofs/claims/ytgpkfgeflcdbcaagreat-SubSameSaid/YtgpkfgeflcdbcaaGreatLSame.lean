/- The walk of SubSame. -/
import Derived.Test.YtgpkfgeflcdbcaaGreatMPD
namespace Go.Proofs.YtgpkfgeflcdbcaaGreat.P
set_option linter.unusedVariables false
open Go.RowKit Fl

theorem eqX_law (x y : SubV) (hx : K.SubV.check x = 0) (hy : K.SubV.check y = 0) : eqX x y = sameD x y := by
  have h1 := eqX_iff x y
  have h2 := sameD_iff x y
  cases h : sameD x y with
  | true => exact h1.2 ⟨hx, hy, h2.1 h⟩
  | false =>
    cases h' : eqX x y with
    | false => rfl
    | true => have := h2.2 (h1.1 h').2.2; rw [h] at this; cases this
theorem eqX_not (x y : SubV) (h : ¬ (K.SubV.check x = 0 ∧ K.SubV.check y = 0)) : eqX x y = false := by
  cases h' : eqX x y with
  | false => rfl
  | true => have := (eqX_iff x y).1 h'; exact absurd ⟨this.1, this.2.1⟩ h
theorem smSame_any (W : World) (v v' : Value) (h : SmRow v W) (h' : SmRow v' W) : Calls Tryz.prog 24 #[v, v'] W (Ret (.bool true) W) := by
  obtain ⟨B, rfl, hB⟩ := h
  obtain ⟨B', rfl, hB'⟩ := h'
  have h1 := subSame_any (smallV B) (smallV B') W hB hB'
  rw [(eqX_iff (smallV B) (smallV B')).2 ⟨small_chk B, small_chk B', sm_same B B'⟩] at h1
  exact h1
set_option maxHeartbeats 1000000 in
set_option maxRecDepth 100000 in
theorem subSame_walk (x y : SubV) (w : World) (h : x.At w) (h' : y.At w) :
    Calls Tryz.prog 7 #[.agg #[.int .i64 x.s0, .int .i64 x.s1, .int .i64 x.s2, .slice x.ra x.rs.length x.rc, .slice x.sa x.ss.length x.sc, .slice x.wa x.ws.length x.wc], .agg #[.int .i64 y.s0, .int .i64 y.s1, .int .i64 y.s2, .slice y.ra y.rs.length y.rc, .slice y.sa y.ss.length y.sc, .slice y.wa y.ws.length y.wc]] w (Ret (.bool true) w) := by
  have HX := hid h; have HY := hid h'
  clear h h'
  go_enter Tryz.func7, Tryz.ntmps7
  go_upto_region 1 with fail
  generalize hW0 : World.alloc _ _ = w0 at *
  have hA : Below w.heap.size w w0 := by rw [← hW0]; (repeat (first | with_reducible exact Below.refl _ _ | ((with_reducible refine Below.alloc1 ?_ ?_ _); (· first | omega | (simp; done) | (simp; omega))) | (with_reducible refine Below.drew ?_) | (with_reducible refine below_drewN' ?_ _) | ((with_reducible refine Below.setCell1 ?_ ?_ _); (· first | omega | (simp; done) | (simp; omega))) | ((with_reducible refine Below.after (by assumption) ?_ ?_); (· first | omega | (simp; done) | (simp; omega)))))
  have hz0 : w.heap.size + 1 < w0.heap.size := by rw [← hW0]; simp
  have q0 : w0.heap[w.heap.size]? = some (.cells #[.int .i64 x.s0, .int .i64 x.s1, .int .i64 x.s2, .slice x.ra x.rs.length x.rc, .slice x.sa x.ss.length x.sc, .slice x.wa x.ws.length x.wc] 25 (0, 0)) := by
    rw [← hW0]
    exact ((World.grownBy_alloc _ _ none).block _ (by simp) (by simp)).trans (heap_alloc_new w _)
  have q1 : w0.heap[w.heap.size + 1]? = some (.cells #[.int .i64 y.s0, .int .i64 y.s1, .int .i64 y.s2, .slice y.ra y.rs.length y.rc, .slice y.sa y.ss.length y.sc, .slice y.wa y.ws.length y.wc] 25 (0, 0)) := by
    rw [← hW0]
    have := heap_alloc_new (w.alloc (.cells #[.int .i64 x.s0, .int .i64 x.s1, .int .i64 x.s2, .slice x.ra x.rs.length x.rc, .slice x.sa x.ss.length x.sc, .slice x.wa x.ws.length x.wc] 25)) (.cells #[.int .i64 y.s0, .int .i64 y.s1, .int .i64 y.s2, .slice y.ra y.rs.length y.rc, .slice y.sa y.ss.length y.sc, .slice y.wa y.ws.length y.wc] 25)
    simpa using this
  clear hW0
  have Q0 := hid q0; have Q1 := hid q1
  clear q0 q1
  go_upto_region 3 with (first | (go_at_call 16; (with_reducible refine (coding_any _).mono ?_); rintro e w1 ⟨rfl, hb1⟩; obtain ⟨hc1, hf1⟩ := bcell hb1; (try simp only [World.heap_drewN, World.cell?_drewN, World.frozen?_drewN] at hc1 hf1); have hz1 := hb1.size; (try simp at hz1); (try have hy1_0 : w.heap.size < w1.heap.size := by omega); (try have hy1_1 : w.heap.size + 1 < w1.heap.size := by omega); (try have hy1_2 : w.heap.size + 2 < w1.heap.size := by omega); (try have hy1_3 : w.heap.size + 3 < w1.heap.size := by omega); (try have hx1_0 : w.heap.size ≤ w1.heap.size := by omega); (try have hx1_1 : w.heap.size + 1 ≤ w1.heap.size := by omega); (try have hx1_2 : w.heap.size + 2 ≤ w1.heap.size := by omega)) | (go_at_call 25; refine (sm_row _).mono ?_; rintro e w2 ⟨v2, rfl, hv2, hb2⟩; go_wp2_with fail; refine (sm_row _).mono ?_; rintro e w3 ⟨v3, rfl, hv3, hb3⟩) | (go_at_call 24; (with_reducible refine (smSame_any _ _ _ (hv2.below hb3) hv3).mono ?_); rintro e w4 ⟨rfl, hb4⟩; obtain ⟨hc4, hf4⟩ := bcell hb4; (try simp only [World.heap_drewN, World.cell?_drewN, World.frozen?_drewN] at hc4 hf4); have hz4 := hb4.size; (try simp at hz4); (try have hy4_0 : w.heap.size < w4.heap.size := by omega); (try have hy4_1 : w.heap.size + 1 < w4.heap.size := by omega); (try have hy4_2 : w.heap.size + 2 < w4.heap.size := by omega); (try have hy4_3 : w.heap.size + 3 < w4.heap.size := by omega); (try have hx4_0 : w.heap.size ≤ w4.heap.size := by omega); (try have hx4_1 : w.heap.size + 1 ≤ w4.heap.size := by omega); (try have hx4_2 : w.heap.size + 2 ≤ w4.heap.size := by omega)))
  have h04 : Below w0.heap.size w0 w4 := hb1.trans ((hb2.trans ((hb3.trans (hb4.mono hb3.size)).mono hb2.size)).mono hb1.size)
  have hw4 : Below w.heap.size w w4 := hA.trans (h04.mono (by omega))
  have R0 := (h04.block _ (by omega)).trans Q0.out
  have R1 := (h04.block _ (by omega)).trans Q1.out
  have hz4 := h04.size
  have ha4 : w.heap.size < w4.heap.size := by omega
  have hb4' : w.heap.size + 1 < w4.heap.size := by omega
  clear hv2 hv3 hb1 hb2 hb3 hb4 hc1 hf1 hc4 hf4 h04
  have CX := fun W hb => K.refCheck_any x W (HX.out.below (hw4.trans (Below.mono (B := w4.heap.size) hb hw4.size)))
  have CY := fun W hb => K.refCheck_any y W (HY.out.below (hw4.trans (Below.mono (B := w4.heap.size) hb hw4.size)))
  have SS := fun W hb => subSame_any x y W (HX.out.below (hw4.trans (Below.mono (B := w4.heap.size) hb hw4.size))) (HY.out.below (hw4.trans (Below.mono (B := w4.heap.size) hb hw4.size)))
  have RS := fun W hb => refSame_any x y W (HX.out.below (hw4.trans (Below.mono (B := w4.heap.size) hb hw4.size))) (HY.out.below (hw4.trans (Below.mono (B := w4.heap.size) hb hw4.size)))
  have B0 := hid fun W (hb : Below w4.heap.size w4 W) => box6 ((hb.block _ ha4).trans R0)
  have B1 := hid fun W (hb : Below w4.heap.size w4 W) => box6 ((hb.block _ hb4').trans R1)
  have L1 := hid (eqX_law x y); have L2 := hid (eqX_not x y)
  clear R0 R1
  generalize x.rs.length = n1 at *
  generalize x.ss.length = n2 at *
  generalize x.ws.length = n3 at *
  generalize y.rs.length = k1 at *
  generalize y.ss.length = k2 at *
  generalize y.ws.length = k3 at *
  generalize K.SubV.check x = cx at *
  generalize K.SubV.check y = cy at *
  obtain ⟨b0, b1, b2, b3, b4, b5⟩ := B0.out w4 (Below.refl _ _)
  by_cases hx : cx = 0
  · subst hx
    go_wp2_with fail
    refine (CX w4 (Below.refl _ _)).mono ?_
    rintro e w5 ⟨rfl, hb5⟩
    obtain ⟨d0, d1, d2, d3, d4, d5⟩ := B1.out w5 hb5
    clear b0 b1 b2 b3 b4 b5
    by_cases hy : cy = 0
    · subst hy
      have he := L1.out (by first | rfl | trivial) (by first | rfl | trivial)
      clear L1 L2
      rw [he] at SS
      generalize sameD x y = v at *
      clear he
      go_wp2_with fail
      refine (CY w5 hb5).mono ?_
      rintro e w6 ⟨rfl, hb6⟩
      have h46 := hb5.trans (hb6.mono hb5.size)
      clear d0 d1 d2 d3 d4 d5
      obtain ⟨b0, b1, b2, b3, b4, b5⟩ := B0.out w6 h46
      obtain ⟨d0, d1, d2, d3, d4, d5⟩ := B1.out w6 h46
      go_wp2_with fail
      refine (SS w6 h46).mono ?_
      rintro e w7 ⟨rfl, hb7⟩
      have h47 := h46.trans (hb7.mono h46.size)
      clear b0 b1 b2 b3 b4 b5 d0 d1 d2 d3 d4 d5
      obtain ⟨b0, b1, b2, b3, b4, b5⟩ := B0.out w7 h47
      obtain ⟨d0, d1, d2, d3, d4, d5⟩ := B1.out w7 h47
      go_wp2_with fail
      refine (RS w7 h47).mono ?_
      rintro e w8 ⟨rfl, hb8⟩
      have h48 := h47.trans (hb8.mono h47.size)
      have hr := hw4.trans (h48.mono hw4.size)
      clear b0 b1 b2 b3 b4 b5 d0 d1 d2 d3 d4 d5
      cases v <;> (go_wp2_with fail; go_ret; exact ⟨rfl, hr⟩)
    · have hy' : (cy == 0) = false := by simpa using hy
      have he := L2.out (fun h => hy h.2)
      clear L1 L2
      rw [he] at SS
      go_wp2_with fail
      refine (CY w5 hb5).mono ?_
      rintro e w6 ⟨rfl, hb6⟩
      have h46 := hb5.trans (hb6.mono hb5.size)
      clear d0 d1 d2 d3 d4 d5
      obtain ⟨b0, b1, b2, b3, b4, b5⟩ := B0.out w6 h46
      obtain ⟨d0, d1, d2, d3, d4, d5⟩ := B1.out w6 h46
      go_wp2_with fail
      refine (SS w6 h46).mono ?_
      rintro e w7 ⟨rfl, hb7⟩
      have h47 := h46.trans (hb7.mono h46.size)
      have hr := hw4.trans (h47.mono hw4.size)
      go_wp2_with fail
      go_ret
      exact ⟨rfl, hr⟩
  · have hx' : (cx == 0) = false := by simpa using hx
    have he := L2.out (fun h => hx h.1)
    clear L1 L2
    rw [he] at SS
    go_wp2_with fail
    refine (CX w4 (Below.refl _ _)).mono ?_
    rintro e w5 ⟨rfl, hb5⟩
    clear b0 b1 b2 b3 b4 b5
    obtain ⟨b0, b1, b2, b3, b4, b5⟩ := B0.out w5 hb5
    obtain ⟨d0, d1, d2, d3, d4, d5⟩ := B1.out w5 hb5
    go_wp2_with fail
    refine (SS w5 hb5).mono ?_
    rintro e w6 ⟨rfl, hb6⟩
    have h46 := hb5.trans (hb6.mono hb5.size)
    have hr := hw4.trans (h46.mono hw4.size)
    go_wp2_with fail
    go_ret
    exact ⟨rfl, hr⟩
end Go.Proofs.YtgpkfgeflcdbcaaGreat.P
