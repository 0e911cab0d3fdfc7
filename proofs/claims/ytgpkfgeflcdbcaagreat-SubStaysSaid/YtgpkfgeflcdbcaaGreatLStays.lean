/- The walk of SubStays. -/
import Derived.Test.YtgpkfgeflcdbcaaGreatMLC
import Derived.Test.YtgpkfgeflcdbcaaGreatMS
namespace Go.Proofs.YtgpkfgeflcdbcaaGreat.P
set_option linter.unusedVariables false
set_option linter.unusedSimpArgs false
open Go.RowKit Fl

set_option maxHeartbeats 2000000 in
set_option maxRecDepth 100000 in
theorem subStays_walk (x : SubV) (key : Nat) (w : World) (h : x.At w) (hf : K.Fits x) (hkey : key < 2 ^ 64) :
    Calls Tryz.prog 10 #[.agg #[.int .i64 x.s0, .int .i64 x.s1, .int .i64 x.s2, .slice x.ra x.rs.length x.rc, .slice x.sa x.ss.length x.sc, .slice x.wa x.ws.length x.wc], .float .f64 key] w (Ret (.bool true) w) := by
  have HX := hid h; have HF := hid hf
  clear h hf
  go_enter Tryz.func10, Tryz.ntmps10
  go_upto_region 1 with fail
  generalize hW0 : World.alloc _ _ = w0 at *
  have hA : Below w.heap.size w w0 := by rw [← hW0]; exact below_auto
  have hz0 : w.heap.size < w0.heap.size := by rw [← hW0]; simp
  have q0 : w0.heap[w.heap.size]? = some (.cells #[.int .i64 x.s0, .int .i64 x.s1, .int .i64 x.s2, .slice x.ra x.rs.length x.rc, .slice x.sa x.ss.length x.sc, .slice x.wa x.ws.length x.wc] 25 (0, 0)) := by rw [← hW0]; simpa using heap_alloc_new w _
  clear hW0
  go_upto_region 3 with (first | (go_at_call 11; (with_reducible refine (K.canonical_any _).mono ?_); rintro e w1 ⟨rfl, hb1⟩; obtain ⟨hc1, hf1⟩ := bcell hb1; (try simp only [World.heap_drewN, World.cell?_drewN, World.frozen?_drewN] at hc1 hf1); have hz1 := hb1.size; (try simp at hz1); (try have hy1_0 : w.heap.size < w1.heap.size := by omega); (try have hy1_1 : w.heap.size + 1 < w1.heap.size := by omega); (try have hy1_2 : w.heap.size + 2 < w1.heap.size := by omega); (try have hy1_3 : w.heap.size + 3 < w1.heap.size := by omega); (try have hx1_0 : w.heap.size ≤ w1.heap.size := by omega); (try have hx1_1 : w.heap.size + 1 ≤ w1.heap.size := by omega); (try have hx1_2 : w.heap.size + 2 ≤ w1.heap.size := by omega)) | (go_at_call 16; (with_reducible refine (coding_any _).mono ?_); rintro e w2 ⟨rfl, hb2⟩; obtain ⟨hc2, hf2⟩ := bcell hb2; (try simp only [World.heap_drewN, World.cell?_drewN, World.frozen?_drewN] at hc2 hf2); have hz2 := hb2.size; (try simp at hz2); (try have hy2_0 : w.heap.size < w2.heap.size := by omega); (try have hy2_1 : w.heap.size + 1 < w2.heap.size := by omega); (try have hy2_2 : w.heap.size + 2 < w2.heap.size := by omega); (try have hy2_3 : w.heap.size + 3 < w2.heap.size := by omega); (try have hx2_0 : w.heap.size ≤ w2.heap.size := by omega); (try have hx2_1 : w.heap.size + 1 ≤ w2.heap.size := by omega); (try have hx2_2 : w.heap.size + 2 ≤ w2.heap.size := by omega)))
  have h02 : Below w0.heap.size w0 w2 := hb1.trans (hb2.mono hb1.size)
  have hw2 : Below w.heap.size w w2 := hA.trans (h02.mono (by omega))
  have q2 := (h02.block _ hz0).trans q0
  have hl2 : w.heap.size < w2.heap.size := Nat.lt_of_lt_of_le hz0 h02.size
  clear hb1 hb2 hc1 hf1 hc2 hf2 q0 h02
  have BX := hid fun W (hb : Below w2.heap.size w2 W) => box6 ((hb.block _ hl2).trans q2)
  have AX := hid fun W (hb : Below w2.heap.size w2 W) => HX.out.below (hw2.trans (hb.mono hw2.size))
  clear q2
  obtain ⟨b0, b1, b2, b3, b4, b5⟩ := BX.out w2 (Below.refl _ _)
  go_wp2_with fail
  refine (canon_y x w2 (AX.out _ (Below.refl _ _)) HF.out).mono ?_
  rintro e w3 ⟨y, rfl, hy, hb3, hn⟩
  have hz3 := hb3.size
  clear b0 b1 b2 b3 b4 b5
  by_cases hc : K.canC x = 0
  · have hyn := hn hc
    have hck : K.SubV.check y = 0 := by rw [hyn.check]; exact norm_check hc
    have hcy := check_canC hck
    have hfy := right_fits hck
    have hyy := norm_right hck
    have hrd := (hyn.reads key).trans (norm_reads x key)
    have hwr := (hyn.writes key).trans (norm_writes x key)
    rw [hc]
    go_upto_region 4 with fail
    generalize hW4 : World.alloc _ _ = w4 at *
    have hb4 : Below w3.heap.size w3 w4 := by rw [← hW4]; exact below_auto
    have hz4 : w3.heap.size < w4.heap.size := by rw [← hW4]; simp
    have q4 : w4.heap[w3.heap.size]? = some (.cells #[.int .i64 y.s0, .int .i64 y.s1, .int .i64 y.s2, .slice y.ra y.rs.length y.rc, .slice y.sa y.ss.length y.sc, .slice y.wa y.ws.length y.wc] 25 (0, 0)) := by rw [← hW4]; simpa using heap_alloc_new w3 _
    have h24 := hb3.trans (hb4.mono hz3)
    clear hW4 hn
    have BY := hid fun W (hb : Below w4.heap.size w4 W) => box6 ((hb.block _ hz4).trans q4)
    have AY := hid fun W (hb : Below w4.heap.size w4 W) => hy.below (hb4.trans (hb.mono (Nat.le_of_lt hz4)))
    have H24 := hid h24
    clear q4 hb3 hb4 h24
    obtain ⟨d0, d1, d2, d3, d4, d5⟩ := BY.out w4 (Below.refl _ _)
    go_upto_region 6 with fail
    go_wp2_with fail
    refine (canon_y y w4 (AY.out _ (Below.refl _ _)) hfy).mono ?_
    rintro e w5 ⟨z, rfl, hz, hb5, hnz⟩
    have hzy : SameD z y := (hnz hcy).trans hyy
    rw [hcy]
    have hz5 := hb5.size
    clear d0 d1 d2 d3 d4 d5 hnz
    go_upto_region 7 with fail
    generalize hW6 : World.alloc _ _ = w6 at *
    have hb6 : Below w5.heap.size w5 w6 := by rw [← hW6]; exact below_auto
    have hz6 : w5.heap.size < w6.heap.size := by rw [← hW6]; simp
    have q6 : w6.heap[w5.heap.size]? = some (.cells #[.int .i64 z.s0, .int .i64 z.s1, .int .i64 z.s2, .slice z.ra z.rs.length z.rc, .slice z.sa z.ss.length z.sc, .slice z.wa z.ws.length z.wc] 25 (0, 0)) := by rw [← hW6]; simpa using heap_alloc_new w5 _
    have h46 := hb5.trans (hb6.mono hz5)
    clear hW6
    have BZ := hid fun W (hb : Below w6.heap.size w6 W) => box6 ((hb.block _ hz6).trans q6)
    have AZ := hid fun W (hb : Below w6.heap.size w6 W) => hz.below (hb6.trans (hb.mono (Nat.le_of_lt hz6)))
    clear q6 hb5 hb6
    obtain ⟨d0, d1, d2, d3, d4, d5⟩ := BY.out w6 h46
    have HC := K.check_any y w6 (AY.out w6 h46)
    rw [hck] at HC
    go_wp2_with fail
    refine HC.mono ?_
    rintro e w7 ⟨rfl, hb7⟩
    have h47 := h46.trans (hb7.mono h46.size)
    have HS := subSame_any y z w7 (AY.out w7 h47) (AZ.out w7 hb7)
    rw [(eqX_iff y z).2 ⟨hck, by rw [hzy.check]; exact hck, hzy.symm⟩] at HS
    clear d0 d1 d2 d3 d4 d5 HC
    obtain ⟨d0, d1, d2, d3, d4, d5⟩ := BY.out w7 h47
    obtain ⟨g0, g1, g2, g3, g4, g5⟩ := BZ.out w7 hb7
    go_wp2_with fail
    refine HS.mono ?_
    rintro e w8 ⟨rfl, hb8⟩
    have h48 := h47.trans (hb8.mono h47.size)
    have h28 := H24.out.trans (h48.mono H24.out.size)
    clear d0 d1 d2 d3 d4 d5 g0 g1 g2 g3 g4 g5 HS hb7 hb8 h46 h47
    have HRx := fun W hb => subReads_any x key W (AX.out W (h28.trans (Below.mono (B := w8.heap.size) hb h28.size)))
    have HWx := fun W hb => subWrites_any x key W (AX.out W (h28.trans (Below.mono (B := w8.heap.size) hb h28.size)))
    have HRy := fun W hb => subReads_any y key W (AY.out W (h48.trans (Below.mono (B := w8.heap.size) hb h48.size)))
    have HWy := fun W hb => subWrites_any y key W (AY.out W (h48.trans (Below.mono (B := w8.heap.size) hb h48.size)))
    rw [hrd] at HRy
    rw [hwr] at HWy
    obtain ⟨b0, b1, b2, b3, b4, b5⟩ := BX.out w8 h28
    obtain ⟨d0, d1, d2, d3, d4, d5⟩ := BY.out w8 h48
    have hlx : w.heap.size < w8.heap.size := Nat.lt_of_lt_of_le hl2 h28.size
    have hly : w3.heap.size < w8.heap.size := Nat.lt_of_lt_of_le hz4 h48.size
    have H28 := hid h28; have H48 := hid h48
    have HEQ : Hid (K.SubV.check x = 0 → eqX x y = true) := hid fun h0 => (eqX_iff x y).2 ⟨h0, hck, ((norm_right h0).symm).trans hyn.symm⟩
    have HLX := hid hlx; have HLY := hid hly
    clear h28 h48 hrd hwr hyn hck hcy hfy hyy hzy hz3 hz4 hz5 hz6 hz hy hc
    generalize hN1 : x.rs.length = n1 at *
    generalize hN2 : x.ss.length = n2 at *
    generalize hN3 : x.ws.length = n3 at *
    generalize hM1 : y.rs.length = m1 at *
    generalize hM2 : y.ss.length = m2 at *
    generalize hM3 : y.ws.length = m3 at *
    have HN := hid (And.intro hN1 (And.intro hN2 (And.intro hN3 (And.intro hM1 (And.intro hM2 hM3)))))
    clear hN1 hN2 hN3 hM1 hM2 hM3
    go_upto_region 9 with fail
    refine wp_region_notesG [Note.val (.agg #[.int .i64 y.s0, .int .i64 y.s1, .int .i64 y.s2, .slice y.ra m1 y.rc, .slice y.sa m2 y.sc, .slice y.wa m3 y.wc]), Note.val (.float .f64 key), Note.val (.bool (x.reads key)), Note.val (.agg #[.int .i64 x.s0, .int .i64 x.s1, .int .i64 x.s2, .slice x.ra n1 x.rc, .slice x.sa n2 x.sc, .slice x.wa n3 x.wc]), Note.val (.float .f64 key), Note.val (.bool (x.reads key)), Note.val (.bool false), Note.val (.bool false), Note.val (.agg #[.int .i64 y.s0, .int .i64 y.s1, .int .i64 y.s2, .slice y.ra m1 y.rc, .slice y.sa m2 y.sc, .slice y.wa m3 y.wc]), Note.val (.float .f64 key), Note.val (.bool (x.writes key)), Note.val (.agg #[.int .i64 x.s0, .int .i64 x.s1, .int .i64 x.s2, .slice x.ra n1 x.rc, .slice x.sa n2 x.sc, .slice x.wa n3 x.wc]), Note.val (.float .f64 key), Note.val (.bool (x.writes key)), Note.val (.bool false), Note.val (.bool false)] rfl (by kernel_rfl) (by kernel_rfl) ?_ ?_
    · simp only [List.length_cons, List.length_nil, Nat.reduceAdd, List.take_succ_cons, List.take_zero, StepsG, List.nil_append, List.cons_append]
      refine ⟨?_, ?_, ?_, ?_, ?_, ?_, ?_, ?_, ?_, ?_, ?_, ?_, ?_, ?_, ?_, ?_, trivial⟩
      · (first | refine StepG.run rfl ?_ | refine StepG.on rfl rfl ?_)
        (try dsimp only)
        intro u w9 hb9 hd
        obtain ⟨hc9, hf9⟩ := bcell hb9
        have hz9 := hb9.size
        (try (simp [Region.binds, Note.phi] at hd))
        (try simp only [putsFrom, Act.put, List.setIfInBounds_toArray, List.set_cons_zero, List.set_cons_succ, Nat.zero_add, Nat.reduceAdd])
        (try simp only [hd])
        revert hd
        ((try simp only [and_imp]); intros)
        go_wp2_with fail
        exact ⟨rfl, Below.refl _ _, rfl⟩
      · (first | refine StepG.run rfl ?_ | refine StepG.on rfl rfl ?_)
        (try dsimp only)
        intro u w9 hb9 hd
        obtain ⟨hc9, hf9⟩ := bcell hb9
        have hz9 := hb9.size
        (try (simp [Region.binds, Note.phi] at hd))
        (try simp only [putsFrom, Act.put, List.setIfInBounds_toArray, List.set_cons_zero, List.set_cons_succ, Nat.zero_add, Nat.reduceAdd])
        (try simp only [hd])
        revert hd
        ((try simp only [and_imp]); intros)
        go_wp2_with fail
        exact ⟨rfl, Below.refl _ _, rfl⟩
      · (first | refine StepG.run rfl ?_ | refine StepG.on rfl rfl ?_)
        (try dsimp only)
        intro u w9 hb9 hd
        obtain ⟨hc9, hf9⟩ := bcell hb9
        have hz9 := hb9.size
        (try (simp [Region.binds, Note.phi] at hd))
        (try simp only [putsFrom, Act.put, List.setIfInBounds_toArray, List.set_cons_zero, List.set_cons_succ, Nat.zero_add, Nat.reduceAdd])
        (try simp only [hd])
        revert hd
        ((try simp only [and_imp]); intros)
        go_wp2_with (go_at_call 27; (with_reducible refine (HRy _ (by exact below_auto)).mono ?_); rintro e wy ⟨rfl, hby⟩)
        exact ⟨rfl, by exact below_auto, rfl⟩
      · (first | refine StepG.run rfl ?_ | refine StepG.on rfl rfl ?_)
        (try dsimp only)
        intro u w9 hb9 hd
        obtain ⟨hc9, hf9⟩ := bcell hb9
        have hz9 := hb9.size
        (try (simp [Region.binds, Note.phi] at hd))
        (try simp only [putsFrom, Act.put, List.setIfInBounds_toArray, List.set_cons_zero, List.set_cons_succ, Nat.zero_add, Nat.reduceAdd])
        (try simp only [hd])
        revert hd
        ((try simp only [and_imp]); intros)
        go_wp2_with fail
        exact ⟨rfl, Below.refl _ _, rfl⟩
      · (first | refine StepG.run rfl ?_ | refine StepG.on rfl rfl ?_)
        (try dsimp only)
        intro u w9 hb9 hd
        obtain ⟨hc9, hf9⟩ := bcell hb9
        have hz9 := hb9.size
        (try (simp [Region.binds, Note.phi] at hd))
        (try simp only [putsFrom, Act.put, List.setIfInBounds_toArray, List.set_cons_zero, List.set_cons_succ, Nat.zero_add, Nat.reduceAdd])
        (try simp only [hd])
        revert hd
        ((try simp only [and_imp]); intros)
        go_wp2_with fail
        exact ⟨rfl, Below.refl _ _, rfl⟩
      · (first | refine StepG.run rfl ?_ | refine StepG.on rfl rfl ?_)
        (try dsimp only)
        intro u w9 hb9 hd
        obtain ⟨hc9, hf9⟩ := bcell hb9
        have hz9 := hb9.size
        (try (simp [Region.binds, Note.phi] at hd))
        (try simp only [putsFrom, Act.put, List.setIfInBounds_toArray, List.set_cons_zero, List.set_cons_succ, Nat.zero_add, Nat.reduceAdd])
        (try simp only [hd])
        revert hd
        ((try simp only [and_imp]); intros)
        go_wp2_with (go_at_call 27; (with_reducible refine (HRx _ (by exact below_auto)).mono ?_); rintro e wy ⟨rfl, hby⟩)
        exact ⟨rfl, by exact below_auto, rfl⟩
      · (first | refine StepG.run rfl ?_ | refine StepG.on rfl rfl ?_)
        (try dsimp only)
        intro u w9 hb9 hd
        obtain ⟨hc9, hf9⟩ := bcell hb9
        have hz9 := hb9.size
        (try (simp [Region.binds, Note.phi] at hd))
        (try simp only [putsFrom, Act.put, List.setIfInBounds_toArray, List.set_cons_zero, List.set_cons_succ, Nat.zero_add, Nat.reduceAdd])
        (try simp only [hd])
        revert hd
        ((try simp only [and_imp]); intros)
        go_wp2_with fail
        exact ⟨rfl, Below.refl _ _, rfl⟩
      · (first | refine StepG.run rfl ?_ | refine StepG.on rfl rfl ?_)
        (try dsimp only)
        intro u w9 hb9 hd
        obtain ⟨hc9, hf9⟩ := bcell hb9
        have hz9 := hb9.size
        (try (simp [Region.binds, Note.phi] at hd))
        (try simp only [putsFrom, Act.put, List.setIfInBounds_toArray, List.set_cons_zero, List.set_cons_succ, Nat.zero_add, Nat.reduceAdd])
        (try simp only [hd])
        revert hd
        ((try simp only [and_imp]); intros)
        go_wp2_with fail
        exact ⟨rfl, Below.refl _ _, rfl⟩
      · (first | refine StepG.run rfl ?_ | refine StepG.on rfl rfl ?_)
        (try dsimp only)
        intro u w9 hb9 hd
        obtain ⟨hc9, hf9⟩ := bcell hb9
        have hz9 := hb9.size
        (try (simp [Region.binds, Note.phi] at hd))
        (try simp only [putsFrom, Act.put, List.setIfInBounds_toArray, List.set_cons_zero, List.set_cons_succ, Nat.zero_add, Nat.reduceAdd])
        (try simp only [hd])
        revert hd
        ((try simp only [and_imp]); intros)
        go_wp2_with fail
        exact ⟨rfl, Below.refl _ _, rfl⟩
      · (first | refine StepG.run rfl ?_ | refine StepG.on rfl rfl ?_)
        (try dsimp only)
        intro u w9 hb9 hd
        obtain ⟨hc9, hf9⟩ := bcell hb9
        have hz9 := hb9.size
        (try (simp [Region.binds, Note.phi] at hd))
        (try simp only [putsFrom, Act.put, List.setIfInBounds_toArray, List.set_cons_zero, List.set_cons_succ, Nat.zero_add, Nat.reduceAdd])
        (try simp only [hd])
        revert hd
        ((try simp only [and_imp]); intros)
        go_wp2_with fail
        exact ⟨rfl, Below.refl _ _, rfl⟩
      · (first | refine StepG.run rfl ?_ | refine StepG.on rfl rfl ?_)
        (try dsimp only)
        intro u w9 hb9 hd
        obtain ⟨hc9, hf9⟩ := bcell hb9
        have hz9 := hb9.size
        (try (simp [Region.binds, Note.phi] at hd))
        (try simp only [putsFrom, Act.put, List.setIfInBounds_toArray, List.set_cons_zero, List.set_cons_succ, Nat.zero_add, Nat.reduceAdd])
        (try simp only [hd])
        revert hd
        ((try simp only [and_imp]); intros)
        go_wp2_with (go_at_call 28; (with_reducible refine (HWy _ (by exact below_auto)).mono ?_); rintro e wy ⟨rfl, hby⟩)
        exact ⟨rfl, by exact below_auto, rfl⟩
      · (first | refine StepG.run rfl ?_ | refine StepG.on rfl rfl ?_)
        (try dsimp only)
        intro u w9 hb9 hd
        obtain ⟨hc9, hf9⟩ := bcell hb9
        have hz9 := hb9.size
        (try (simp [Region.binds, Note.phi] at hd))
        (try simp only [putsFrom, Act.put, List.setIfInBounds_toArray, List.set_cons_zero, List.set_cons_succ, Nat.zero_add, Nat.reduceAdd])
        (try simp only [hd])
        revert hd
        ((try simp only [and_imp]); intros)
        go_wp2_with fail
        exact ⟨rfl, Below.refl _ _, rfl⟩
      · (first | refine StepG.run rfl ?_ | refine StepG.on rfl rfl ?_)
        (try dsimp only)
        intro u w9 hb9 hd
        obtain ⟨hc9, hf9⟩ := bcell hb9
        have hz9 := hb9.size
        (try (simp [Region.binds, Note.phi] at hd))
        (try simp only [putsFrom, Act.put, List.setIfInBounds_toArray, List.set_cons_zero, List.set_cons_succ, Nat.zero_add, Nat.reduceAdd])
        (try simp only [hd])
        revert hd
        ((try simp only [and_imp]); intros)
        go_wp2_with fail
        exact ⟨rfl, Below.refl _ _, rfl⟩
      · (first | refine StepG.run rfl ?_ | refine StepG.on rfl rfl ?_)
        (try dsimp only)
        intro u w9 hb9 hd
        obtain ⟨hc9, hf9⟩ := bcell hb9
        have hz9 := hb9.size
        (try (simp [Region.binds, Note.phi] at hd))
        (try simp only [putsFrom, Act.put, List.setIfInBounds_toArray, List.set_cons_zero, List.set_cons_succ, Nat.zero_add, Nat.reduceAdd])
        (try simp only [hd])
        revert hd
        ((try simp only [and_imp]); intros)
        go_wp2_with (go_at_call 28; (with_reducible refine (HWx _ (by exact below_auto)).mono ?_); rintro e wy ⟨rfl, hby⟩)
        exact ⟨rfl, by exact below_auto, rfl⟩
      · (first | refine StepG.run rfl ?_ | refine StepG.on rfl rfl ?_)
        (try dsimp only)
        intro u w9 hb9 hd
        obtain ⟨hc9, hf9⟩ := bcell hb9
        have hz9 := hb9.size
        (try (simp [Region.binds, Note.phi] at hd))
        (try simp only [putsFrom, Act.put, List.setIfInBounds_toArray, List.set_cons_zero, List.set_cons_succ, Nat.zero_add, Nat.reduceAdd])
        (try simp only [hd])
        revert hd
        ((try simp only [and_imp]); intros)
        go_wp2_with fail
        exact ⟨rfl, Below.refl _ _, rfl⟩
      · (first | refine StepG.run rfl ?_ | refine StepG.on rfl rfl ?_)
        (try dsimp only)
        intro u w9 hb9 hd
        obtain ⟨hc9, hf9⟩ := bcell hb9
        have hz9 := hb9.size
        (try (simp [Region.binds, Note.phi] at hd))
        (try simp only [putsFrom, Act.put, List.setIfInBounds_toArray, List.set_cons_zero, List.set_cons_succ, Nat.zero_add, Nat.reduceAdd])
        (try simp only [hd])
        revert hd
        ((try simp only [and_imp]); intros)
        go_wp2_with fail
        exact ⟨rfl, Below.refl _ _, rfl⟩
    · intro u w9 hb9 hph hap
      obtain ⟨hc9, hf9⟩ := bcell hb9
      have hz9 := hb9.size
      have hp0 := hph 0 (by simp)
      have hp1 := hph 1 (by simp)
      have hp2 := hph 2 (by simp)
      have hp3 := hph 3 (by simp)
      have hp4 := hph 4 (by simp)
      have hp5 := hph 5 (by simp)
      have hp6 := hph 6 (by simp)
      have hp7 := hph 7 (by simp)
      have hp8 := hph 8 (by simp)
      have hp9 := hph 9 (by simp)
      have hp10 := hph 10 (by simp)
      have hp11 := hph 11 (by simp)
      have hp12 := hph 12 (by simp)
      have hp13 := hph 13 (by simp)
      have hp14 := hph 14 (by simp)
      have hp15 := hph 15 (by simp)
      clear hph hap
      simp only [List.length_cons, List.length_nil, List.take_succ_cons, List.take_zero, List.drop_succ_cons, List.drop_zero, putsFrom, Act.put, List.setIfInBounds_toArray, List.set_cons_zero, List.set_cons_succ, Nat.zero_add, Nat.reduceAdd]
      generalize u 0 = u0 at *
      cases hp0
      generalize u 1 = u1 at *
      cases hp1
      generalize u 2 = u2 at *
      cases hp2
      generalize u 3 = u3 at *
      cases hp3
      generalize u 4 = u4 at *
      cases hp4
      generalize u 5 = u5 at *
      cases hp5
      generalize u 6 = u6 at *
      cases hp6
      generalize u 7 = u7 at *
      cases hp7
      generalize u 8 = u8 at *
      cases hp8
      generalize u 9 = u9 at *
      cases hp9
      generalize u 10 = u10 at *
      cases hp10
      generalize u 11 = u11 at *
      cases hp11
      generalize u 12 = u12 at *
      cases hp12
      generalize u 13 = u13 at *
      cases hp13
      generalize u 14 = u14 at *
      cases hp14
      generalize u 15 = u15 at *
      cases hp15
      clear u
      go_upto_region 11 with fail
      have h29 := H28.out.trans (hb9.mono H28.out.size)
      have h49 := H48.out.trans (hb9.mono H48.out.size)
      have hw9 := hw2.trans (h29.mono hw2.size)
      obtain ⟨e1, e2, e3, e4, e5, e6⟩ := HN.out
      have HCx := K.check_any x w9 (AX.out w9 h29)
      rw [e1, e2, e3] at HCx
      have BX9 := BX.out w9 h29
      clear hc9 hf9 hb9 b0 b1 b2 b3 b4 b5 d0 d1 d2 d3 d4 d5 HRx HRy HWx HWy
      obtain ⟨b0, b1, b2, b3, b4, b5⟩ := BX9
      by_cases hcx : K.SubV.check x = 0
      · have hE := HEQ.out hcx
        rw [hcx] at HCx
        go_wp2_with fail
        refine HCx.mono ?_
        rintro e w10 ⟨rfl, hb10⟩
        have h210 := h29.trans (hb10.mono h29.size)
        have h410 := h49.trans (hb10.mono h49.size)
        have hw10 := hw2.trans (h210.mono hw2.size)
        have HS := subSame_any x y w10 (AX.out w10 h210) (AY.out w10 h410)
        rw [hE, e1, e2, e3, e4, e5, e6] at HS
        have BX9 := BX.out w10 h210
        have BY9 := BY.out w10 h410
        clear b0 b1 b2 b3 b4 b5 hE hcx
        obtain ⟨b0, b1, b2, b3, b4, b5⟩ := BX9
        obtain ⟨d0, d1, d2, d3, d4, d5⟩ := BY9
        go_wp2_with fail
        refine HS.mono ?_
        rintro e w11 ⟨rfl, hb11⟩
        have hr := hw10.trans (hb11.mono hw10.size)
        go_wp2_with fail
        go_ret
        exact ⟨rfl, hr⟩
      · have hcb : (K.SubV.check x != 0) = true := by simpa using hcx
        generalize K.SubV.check x = cx at *
        go_wp2_with fail
        refine HCx.mono ?_
        rintro e w10 ⟨rfl, hb10⟩
        have hr := hw9.trans (hb10.mono hw9.size)
        go_wp2_with fail
        go_ret
        exact ⟨rfl, hr⟩
  · have hcx : K.SubV.check x ≠ 0 := fun h0 => hc (check_canC h0)
    have hcb : (K.canC x != 0) = true := by simpa using hc
    have hcb2 : (K.SubV.check x != 0) = true := by simpa using hcx
    go_upto_region 4 with fail
    generalize hW4 : World.alloc _ _ = w4 at *
    have hb4 : Below w3.heap.size w3 w4 := by rw [← hW4]; exact below_auto
    have h24 := hb3.trans (hb4.mono hz3)
    have hw4 := hw2.trans (h24.mono hw2.size)
    have HCx := K.check_any x w4 (AX.out w4 h24)
    obtain ⟨b0, b1, b2, b3, b4, b5⟩ := BX.out w4 h24
    clear hW4 hb3 hb4 hn hy hc hcx
    generalize K.SubV.check x = cx at *
    generalize K.canC x = cc at *
    go_wp2_with fail
    refine HCx.mono ?_
    rintro e w5 ⟨rfl, hb5⟩
    have hr := hw4.trans (hb5.mono hw4.size)
    go_wp2_with fail
    go_ret
    exact ⟨rfl, hr⟩
end Go.Proofs.YtgpkfgeflcdbcaaGreat.P
