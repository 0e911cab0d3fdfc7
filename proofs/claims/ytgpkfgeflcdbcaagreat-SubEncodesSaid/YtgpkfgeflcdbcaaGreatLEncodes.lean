/- The walk of SubEncodes. -/
import Derived.Test.YtgpkfgeflcdbcaaGreatMPD
import Derived.Test.YtgpkfgeflcdbcaaGreatPZ
namespace Go.Proofs.YtgpkfgeflcdbcaaGreat.P
set_option linter.unusedVariables false
open Go.RowKit Fl

set_option maxHeartbeats 2000000 in
set_option maxRecDepth 100000 in
theorem subEncodes_walk (x : SubV) (w : World) (h : x.At w) :
    Calls Tryz.prog 4 #[.agg #[.int .i64 x.s0, .int .i64 x.s1, .int .i64 x.s2, .slice x.ra x.rs.length x.rc, .slice x.sa x.ss.length x.sc, .slice x.wa x.ws.length x.wc]] w (Ret (.bool true) w) := by
  have HX := hid h
  clear h
  go_enter Tryz.func4, Tryz.ntmps4
  go_upto_region 1 with fail
  generalize hW0 : World.alloc _ _ = w0 at *
  have hA : Below w.heap.size w w0 := by rw [← hW0]; exact below_auto
  have hz0 : w.heap.size < w0.heap.size := by rw [← hW0]; simp
  have q0 : w0.heap[w.heap.size]? = some (.cells #[.int .i64 x.s0, .int .i64 x.s1, .int .i64 x.s2, .slice x.ra x.rs.length x.rc, .slice x.sa x.ss.length x.sc, .slice x.wa x.ws.length x.wc] 25 (0, 0)) := by rw [← hW0]; simpa using heap_alloc_new w _
  clear hW0
  go_upto_region 3 with (go_at_call 16; (with_reducible refine (coding_any _).mono ?_); rintro e w1 ⟨rfl, hb1⟩; obtain ⟨hc1, hf1⟩ := bcell hb1; (try simp only [World.heap_drewN, World.cell?_drewN, World.frozen?_drewN] at hc1 hf1); have hz1 := hb1.size; (try simp at hz1); (try have hy1_0 : w.heap.size < w1.heap.size := by omega); (try have hy1_1 : w.heap.size + 1 < w1.heap.size := by omega); (try have hy1_2 : w.heap.size + 2 < w1.heap.size := by omega); (try have hy1_3 : w.heap.size + 3 < w1.heap.size := by omega); (try have hx1_0 : w.heap.size ≤ w1.heap.size := by omega); (try have hx1_1 : w.heap.size + 1 ≤ w1.heap.size := by omega); (try have hx1_2 : w.heap.size + 2 ≤ w1.heap.size := by omega))
  have hw1 : Below w.heap.size w w1 := hA.trans (hb1.mono (by omega))
  have q1 := (hb1.block _ hz0).trans q0
  have hl1 : w.heap.size < w1.heap.size := Nat.lt_of_lt_of_le hz0 hb1.size
  clear hb1 hc1 hf1 q0
  have BX := hid fun W (hb : Below w1.heap.size w1 W) => box6 ((hb.block _ hl1).trans q1)
  have AX := hid fun W (hb : Below w1.heap.size w1 W) => HX.out.below (hw1.trans (hb.mono hw1.size))
  clear q1
  obtain ⟨b0, b1, b2, b3, b4, b5⟩ := BX.out w1 (Below.refl _ _)
  have HE := hid (encode_any x w1 (AX.out w1 (Below.refl _ _)))
  have HK := hid fun W (hb : Below w1.heap.size w1 W) => K.refCheck_any x W (AX.out W hb)
  by_cases hck : K.SubV.check x = 0
  · have HC := hid hck
    have hd := enc_dec hck
    have hen : encO x = packB (valsOf x) := by unfold encO; rw [if_pos hck]
    have hlen := encO_len x w1 (AX.out w1 (Below.refl _ _))
    rw [hck] at HK
    have HHD := hid hd; have HEN := hid hen
    clear hd hen hck
    go_wp2_with fail
    refine HE.out.mono ?_
    rintro e w2 ⟨a, c, rfl, ho, hb2⟩
    rw [HC.out]
    have hbb := own_belowB rfl ho (by omega) (encO_byte _)
    have hbat := EncRet.bat (AX.out w1 (Below.refl _ _)) ho
    have HD := hid fun W (hb : Below w2.heap.size w2 W) => decode_any a c (encO x) W ⟨(hbat.below hb).row, (hbat.below hb).lt, hbb.cap⟩
    have HBT := hid fun W (hb : Below w2.heap.size w2 W) => hbat.below hb
    rw [HHD.out.1] at HD
    clear HE ho hbb hbat b0 b1 b2 b3 b4 b5
    generalize hn : (encO x).length = n at *
    have HN := hid hn
    clear hn hlen
    obtain ⟨b0, b1, b2, b3, b4, b5⟩ := BX.out w2 hb2
    go_wp2_with fail
    refine (HK.out w2 hb2).mono ?_
    rintro e w3 ⟨rfl, hb3⟩
    have h13 := hb2.trans (hb3.mono hb2.size)
    clear b0 b1 b2 b3 b4 b5
    go_wp2_with fail
    refine (HD.out w3 hb3).mono ?_
    rintro e w4 ⟨y, hy1, hy2, rfl, hb4⟩
    have hsy : SameD y x := hy1.trans HHD.out.2
    have h14 := h13.trans (hb4.mono h13.size)
    have h24 := hb3.trans (hb4.mono hb3.size)
    have HY := hid hy2
    clear hb3 hb4 h13 hy1 hy2 HD HK
    go_upto_region 8 with fail
    generalize hW5 : World.alloc _ _ = w5
    have hb5 : Below w4.heap.size w4 w5 := by rw [← hW5]; exact below_auto
    have hz5 : w4.heap.size < w5.heap.size := by rw [← hW5]; simp
    have q5 : w5.heap[w4.heap.size]? = some (.cells #[.int .i64 y.s0, .int .i64 y.s1, .int .i64 y.s2, .slice y.ra y.rs.length y.rc, .slice y.sa y.ss.length y.sc, .slice y.wa y.ws.length y.wc] 25 (0, 0)) := by rw [← hW5]; simpa using heap_alloc_new w4 _
    have h15 := h14.trans (hb5.mono h14.size)
    have h25 := h24.trans (hb5.mono h24.size)
    clear hW5 h14 h24
    have BY := hid fun W (hb : Below w5.heap.size w5 W) => box6 ((hb.block _ hz5).trans q5)
    have AY := hid fun W (hb : Below w5.heap.size w5 W) => HY.out.below (hb5.trans (hb.mono hb5.size))
    have hsm := (sameD_iff x y).2 hsy.symm
    have HSM := hid hsm
    clear q5 hb5 hsy hsm
    obtain ⟨b0, b1, b2, b3, b4, b5⟩ := BX.out w5 h15
    go_wp2_with fail
    refine (docBytes_any x w5 (AX.out w5 h15) HC.out).mono ?_
    rintro e w6 ⟨a6, c6, rfl, ho6, hb6⟩
    have h16 := h15.trans (hb6.mono h15.size)
    have h26 := h25.trans (hb6.mono h25.size)
    have hn6 : (packB (valsOf x)).length = n := by rw [← HEN.out]; exact HN.out
    have hl6 : (packB (valsOf x)).length ≤ 17592186044416 := by rw [← HEN.out]; have := encO_len x w1 (AX.out w1 (Below.refl _ _)); omega
    have hlt6 : ∀ y ∈ packB (valsOf x), y < 256 := by rw [← HEN.out]; exact encO_byte x
    have hB6 : BAt w6 a6 (packB (valsOf x)) := own_bat rfl ho6 hl6 hlt6
    have HSB := hid (sameB_any a a6 c c6 n n (encO x) (packB (valsOf x)) true w6 HN.out hn6 (HBT.out w6 h26) hB6 (by rw [HEN.out]; simp))
    clear ho6 hB6 hlt6 hl6 b0 b1 b2 b3 b4 b5
    have HN6 := hid hn6
    clear hn6
    rw [HN6.out]
    go_wp2_with fail
    refine HSB.out.mono ?_
    rintro e w7 ⟨rfl, hb7⟩
    have h17 := h16.trans (hb7.mono h16.size)
    have h57 := hb6.trans (hb7.mono hb6.size)
    obtain ⟨b0, b1, b2, b3, b4, b5⟩ := BX.out w7 h17
    obtain ⟨d0, d1, d2, d3, d4, d5⟩ := BY.out w7 h57
    have HS := refSame_any x y w7 (AX.out w7 h17) (AY.out w7 h57)
    rw [HSM.out] at HS
    clear HSB
    go_wp2_with fail
    refine HS.mono ?_
    rintro e w8 ⟨rfl, hb8⟩
    have h18 := hw1.trans ((h17.trans (hb8.mono h17.size)).mono hw1.size)
    go_wp2_with fail
    go_ret
    exact ⟨rfl, h18⟩
  · have hen : encO x = [] := by unfold encO; rw [if_neg hck]
    unfold EncRet at HE
    rw [hen] at HE
    generalize K.SubV.check x = cc at *
    have hcb : (cc != 0) = true := by simpa using hck
    have hcb2 : ¬ cc = 0 := hck
    go_wp2_with fail
    refine HE.out.mono ?_
    rintro e w2 ⟨a, c, rfl, ho, hb2⟩
    clear b0 b1 b2 b3 b4 b5 ho HE
    obtain ⟨b0, b1, b2, b3, b4, b5⟩ := BX.out w2 hb2
    go_wp2_with fail
    refine (HK.out w2 hb2).mono ?_
    rintro e w3 ⟨rfl, hb3⟩
    have h13 := hw1.trans ((hb2.trans (hb3.mono hb2.size)).mono hw1.size)
    clear b0 b1 b2 b3 b4 b5
    go_wp2_with fail
    go_ret
    exact ⟨rfl, h13⟩
end Go.Proofs.YtgpkfgeflcdbcaaGreat.P
