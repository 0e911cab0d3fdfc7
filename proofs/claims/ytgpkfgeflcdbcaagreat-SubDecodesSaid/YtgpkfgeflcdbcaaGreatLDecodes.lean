/- The walk of SubDecodes. -/
import Derived.Test.YtgpkfgeflcdbcaaGreatMPD
import Derived.Test.YtgpkfgeflcdbcaaGreatPMD
namespace Go.Proofs.YtgpkfgeflcdbcaaGreat.P
set_option linter.unusedVariables false
open Go.RowKit Fl

/-- No submission. -/
def noV : SubV := ⟨0, 0, 0, none, 0, [], none, 0, [], none, 0, []⟩
theorem noV_at (w : World) : noV.At w :=
  ⟨⟨.inl rfl, fun i hi => absurd hi (by simp [noV]), by simp [noV]⟩, ⟨.inl rfl, fun i hi => absurd hi (by simp [noV]), by simp [noV]⟩, ⟨.inl rfl, fun i hi => absurd hi (by simp [noV]), by simp [noV]⟩⟩
theorem noV_same (w : World) : Calls Tryz.prog 14 #[.agg #[.int .i64 0, .int .i64 0, .int .i64 0, .slice none 0 0, .slice none 0 0, .slice none 0 0], .agg #[.int .i64 0, .int .i64 0, .int .i64 0, .slice none 0 0, .slice none 0 0, .slice none 0 0]] w (Ret (.bool true) w) := by
  have h := refSame_any noV noV w (noV_at w) (noV_at w)
  rw [(sameD_iff noV noV).2 ⟨rfl, rfl, rfl, rfl, rfl, rfl⟩] at h
  exact h
set_option maxHeartbeats 2000000 in
set_option maxRecDepth 100000 in
theorem subDecodes_walk (a : Option Addr) (c : Nat) (bs : List Nat) (w : World) (h : BAt w a bs) (hc : bs.length ≤ c) :
    Calls Tryz.prog 5 #[.slice a bs.length c] w (Ret (.bool true) w) := by
  have HB := hid h
  have HC := hid hc
  clear h hc
  have HD := hid fun W (hb : Below w.heap.size w W) => decode_any a c bs W ⟨(HB.out.below hb).row, HB.out.lt, HC.out⟩
  have HR := hid fun W (hb : Below w.heap.size w W) => refDecode_any W.heap.size a c bs W ⟨(HB.out.below hb).row, HB.out.lt, HC.out⟩ (Nat.le_refl _) HB.out.len
  cases hd : dec bs with
  | none =>
    rw [hd] at HD HR
    have HS := hid noV_same
    generalize bs.length = n at *
    go_enter Tryz.func5, Tryz.ntmps5
    go_upto_region 3 with (go_at_call 16; (with_reducible refine (coding_any _).mono ?_); rintro e w1 ⟨rfl, hb1⟩; obtain ⟨hc1, hf1⟩ := bcell hb1; (try simp only [World.heap_drewN, World.cell?_drewN, World.frozen?_drewN] at hc1 hf1); have hz1 := hb1.size; (try simp at hz1); (try have hy1_0 : w.heap.size < w1.heap.size := by omega); (try have hy1_1 : w.heap.size + 1 < w1.heap.size := by omega); (try have hy1_2 : w.heap.size + 2 < w1.heap.size := by omega); (try have hy1_3 : w.heap.size + 3 < w1.heap.size := by omega); (try have hx1_0 : w.heap.size ≤ w1.heap.size := by omega); (try have hx1_1 : w.heap.size + 1 ≤ w1.heap.size := by omega); (try have hx1_2 : w.heap.size + 2 ≤ w1.heap.size := by omega))
    clear hc1 hf1
    go_wp2_with fail
    refine (HD.out w1 hb1).mono ?_
    rintro e w2 ⟨rfl, hb2⟩
    have hb12 := hb1.trans (hb2.mono hb1.size)
    go_upto_region 4 with fail
    generalize hW3 : World.alloc _ _ = w3
    have hb3 : Below w2.heap.size w2 w3 := by rw [← hW3]; exact below_auto
    have hz3 : w2.heap.size < w3.heap.size := by rw [← hW3]; simp
    have q3 : w3.heap[w2.heap.size]? = some (.cells #[.int .i64 0, .int .i64 0, .int .i64 0, .slice none 0 0, .slice none 0 0, .slice none 0 0] 25 (0, 0)) := by rw [← hW3]; simpa using heap_alloc_new w2 _
    have h3 := hb12.trans (hb3.mono hb12.size)
    clear hW3 hb12 hb2 hb3
    have BX := hid fun W (hb : Below w3.heap.size w3 W) => box6 ((hb.block _ hz3).trans q3)
    clear q3
    go_wp2_with fail
    refine (HR.out w3 h3).mono ?_
    rintro e w4 ⟨hb4, rfl⟩
    have h4 := h3.trans (hb4.mono h3.size)
    go_upto_region 5 with fail
    generalize hW5 : World.alloc _ _ = w5
    have hb5 : Below w4.heap.size w4 w5 := by rw [← hW5]; exact below_auto
    have h35 := hb4.trans (hb5.mono hb4.size)
    have h5 := h4.trans (hb5.mono h4.size)
    obtain ⟨b0, b1, b2, b3, b4, b5⟩ := BX.out w5 h35
    clear hW5 hb4 hb5 h4 h35
    go_wp2_with fail
    refine (HS.out w5).mono ?_
    rintro e w6 ⟨rfl, hb6⟩
    have h6 := h5.trans (hb6.mono h5.size)
    go_wp2_with fail
    go_ret
    exact ⟨rfl, h6⟩
  | some t =>
    rw [hd] at HD HR
    generalize bs.length = n at *
    go_enter Tryz.func5, Tryz.ntmps5
    go_upto_region 3 with (go_at_call 16; (with_reducible refine (coding_any _).mono ?_); rintro e w1 ⟨rfl, hb1⟩; obtain ⟨hc1, hf1⟩ := bcell hb1; (try simp only [World.heap_drewN, World.cell?_drewN, World.frozen?_drewN] at hc1 hf1); have hz1 := hb1.size; (try simp at hz1); (try have hy1_0 : w.heap.size < w1.heap.size := by omega); (try have hy1_1 : w.heap.size + 1 < w1.heap.size := by omega); (try have hy1_2 : w.heap.size + 2 < w1.heap.size := by omega); (try have hy1_3 : w.heap.size + 3 < w1.heap.size := by omega); (try have hx1_0 : w.heap.size ≤ w1.heap.size := by omega); (try have hx1_1 : w.heap.size + 1 ≤ w1.heap.size := by omega); (try have hx1_2 : w.heap.size + 2 ≤ w1.heap.size := by omega))
    clear hc1 hf1
    go_wp2_with fail
    refine (HD.out w1 hb1).mono ?_
    rintro e w2 ⟨x, hx1, hx2, rfl, hb2⟩
    have hb12 := hb1.trans (hb2.mono hb1.size)
    have HX1 := hid hx1; have HX2 := hid hx2
    clear hx1 hx2
    go_upto_region 4 with fail
    generalize hW3 : World.alloc _ _ = w3
    have hb3 : Below w2.heap.size w2 w3 := by rw [← hW3]; exact below_auto
    have hz3 : w2.heap.size < w3.heap.size := by rw [← hW3]; simp
    have q3 : w3.heap[w2.heap.size]? = some (.cells #[.int .i64 x.s0, .int .i64 x.s1, .int .i64 x.s2, .slice x.ra x.rs.length x.rc, .slice x.sa x.ss.length x.sc, .slice x.wa x.ws.length x.wc] 25 (0, 0)) := by rw [← hW3]; simpa using heap_alloc_new w2 _
    have h3 := hb12.trans (hb3.mono hb12.size)
    have AX := hid fun W (hb : Below w3.heap.size w3 W) => HX2.out.below (hb3.trans (hb.mono hb3.size))
    clear hW3 hb12 hb2 hb3
    have BX := hid fun W (hb : Below w3.heap.size w3 W) => box6 ((hb.block _ hz3).trans q3)
    clear q3
    go_wp2_with fail
    refine (HR.out w3 h3).mono ?_
    rintro e w4 ⟨hb4, y, hy1, hy2, rfl⟩
    have h4 := h3.trans (hb4.mono h3.size)
    have HY2 := hid hy2
    have HSM := hid ((sameD_iff x y).2 (HX1.out.trans hy1.symm))
    clear hy1 hy2
    go_upto_region 5 with fail
    generalize hW5 : World.alloc _ _ = w5
    have hb5 : Below w4.heap.size w4 w5 := by rw [← hW5]; exact below_auto
    have hz5 : w4.heap.size < w5.heap.size := by rw [← hW5]; simp
    have q5 : w5.heap[w4.heap.size]? = some (.cells #[.int .i64 y.s0, .int .i64 y.s1, .int .i64 y.s2, .slice y.ra y.rs.length y.rc, .slice y.sa y.ss.length y.sc, .slice y.wa y.ws.length y.wc] 25 (0, 0)) := by rw [← hW5]; simpa using heap_alloc_new w4 _
    have h35 := hb4.trans (hb5.mono hb4.size)
    have h5 := h4.trans (hb5.mono h4.size)
    obtain ⟨b0, b1, b2, b3, b4, b5⟩ := BX.out w5 h35
    obtain ⟨d0, d1, d2, d3, d4, d5⟩ := box6 q5
    have HS := refSame_any x y w5 (AX.out w5 h35) (HY2.out.below hb5)
    rw [HSM.out] at HS
    clear hW5 hb4 hb5 h4 h35 q5
    go_wp2_with fail
    refine HS.mono ?_
    rintro e w6 ⟨rfl, hb6⟩
    have h6 := h5.trans (hb6.mono h5.size)
    go_wp2_with fail
    go_ret
    exact ⟨rfl, h6⟩
end Go.Proofs.YtgpkfgeflcdbcaaGreat.P
