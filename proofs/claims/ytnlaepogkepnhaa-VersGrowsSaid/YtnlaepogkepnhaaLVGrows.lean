/- The walk of VersGrows. -/
import Derived.Test.YtnlaepogkepnhaaVG
import Derived.Test.YtnlaepogkepnhaaVS2
namespace Go.Proofs.Ytnlaepogkepnhaa
set_option linter.unusedVariables false
open Go.RowKit Fl

set_option maxRecDepth 100000 in
theorem versGrows_short (a : Option Addr) (c : Nat) (ops : List OpV) (key lo hi : Nat) (b1 b2 : Bool) (w : World) (ho : OAt w a ops) (hca : ops.length ≤ c ∧ c ≤ 9223372036854775807) (hlen : ops.length ≤ 60) (hkey : key < 2 ^ 64) (hl : lo < 2 ^ 64) (hh : hi < 2 ^ 64) :
    Calls Try.prog 3 #[.slice a ops.length c, .float .f64 key, .agg #[.float .f64 lo, .float .f64 hi, .bool b1, .bool b2]] w (Ret (.bool true) w) := by
  obtain ⟨n, hn⟩ : ∃ n, ops.length = n := ⟨_, rfl⟩
  have hmax : n ≤ 9223372036854775807 := by have := ho.len; unfold maxLen at this; omega
  have HO := hid ho
  rw [hn] at hlen hca ⊢
  obtain ⟨oq, hoq⟩ : ∃ oq, oq = ops := ⟨_, rfl⟩
  rw [← hoq] at hn
  have HQ := hid hoq
  clear hoq
  have HN : Hid (oq.length = n) := hid (by exact hn)
  have hrev := putAll_rev 64 oq (by rw [HN.out]; omega)
  obtain ⟨r, hr⟩ : ∃ r, canonS lo hi b1 b2 = r := ⟨_, rfl⟩
  have HR := hid hr
  clear ho hn hr
  go_enter Try.func3, Try.ntmps3
  go_wp2_with fail
  with_reducible refine (tab_new (Below.refl _ _) 64 (by omega) (by omega)).mono ?_
  rintro e w1 ⟨T, rfl, hT0⟩
  obtain ⟨W0, hW0⟩ : ∃ W0, W0 = w.alloc (.cells #[.float .f64 lo, .float .f64 hi, .bool b1, .bool b2] 25) := ⟨_, rfl⟩
  have hB0 : Below w.heap.size w W0 := by rw [hW0]; (repeat (first | with_reducible exact Below.refl _ _ | ((with_reducible refine Below.alloc1 ?_ ?_ _); (· first | omega | (simp; done) | (simp; omega))) | (with_reducible refine Below.drew ?_) | (with_reducible refine below_drewN' ?_ _) | ((with_reducible refine Below.setCell1 ?_ ?_ _); (· first | omega | (simp; done) | (simp; omega))) | ((with_reducible refine Below.after (by assumption) ?_ ?_); (· first | omega | (simp; done) | (simp; omega)))))
  have hz0 : W0.heap.size = w.heap.size + 1 := by rw [hW0]; simp
  have s0 : W0.cell? ⟨w.heap.size, 0, none⟩ = some (.float .f64 lo) := by rw [hW0]; simp [go_sem]
  have s1 : W0.cell? ⟨w.heap.size, 1, none⟩ = some (.float .f64 hi) := by rw [hW0]; simp [go_sem]
  have s2 : W0.cell? ⟨w.heap.size, 2, none⟩ = some (.bool b1) := by rw [hW0]; simp [go_sem]
  have s3 : W0.cell? ⟨w.heap.size, 3, none⟩ = some (.bool b2) := by rw [hW0]; simp [go_sem]
  have hT1 : Tab1 W0 w1 T 64 [] := by rw [hW0]; exact hT0
  clear hT0 hW0
  have hBox : w.heap.size < W0.heap.size := by omega
  go_wp2_with fail
  with_reducible refine (tab2_new hT1).mono ?_
  rintro e w2 ⟨T2, rfl, hT2⟩
  clear hT1
  go_wp2_with (go_at_call 12; (with_reducible refine (alive_any _).mono ?_); rintro e w3 ⟨rfl, hb3⟩; obtain ⟨hc3, hf3⟩ := bcell hb3; (try simp only [World.heap_drewN, World.cell?_drewN, World.frozen?_drewN] at hc3 hf3); have hz3 := hb3.size; (try simp at hz3); (try have hy3_0 : w.heap.size < w3.heap.size := by omega); (try have hy3_1 : w.heap.size + 1 < w3.heap.size := by omega); (try have hy3_2 : w.heap.size + 2 < w3.heap.size := by omega); (try have hy3_3 : w.heap.size + 3 < w3.heap.size := by omega); (try have hx3_0 : w.heap.size ≤ w3.heap.size := by omega); (try have hx3_1 : w.heap.size + 1 ≤ w3.heap.size := by omega); (try have hx3_2 : w.heap.size + 2 ≤ w3.heap.size := by omega))
  have hT3 : Tab2 W0 w3 T T2 64 [] [] := hT2.below hb3
  clear hT2 hb3 hc3 hf3 hlen
  go_loopw [34] (fun iv wr => ∃ i : Nat, i ≤ n ∧ iv = .int .i64 i ∧ Tab2 W0 wr T T2 64 (putAll [] 64 (oq.take i)) (putAll [] 64 (oq.reverse.take i))) (fun iv _ => n - (intOf iv).toNat)
  case atStart => exact ⟨0, Nat.zero_le _, rfl, hT3⟩
  case round =>
    obtain ⟨i, hin, rfl, hT⟩ := hrel
    clear hT3
    have e0 := (hT.b.cell (p := ⟨w.heap.size, 0, none⟩) hBox).trans s0
    have e1 := (hT.b.cell (p := ⟨w.heap.size, 1, none⟩) hBox).trans s1
    have e2 := (hT.b.cell (p := ⟨w.heap.size, 2, none⟩) hBox).trans s2
    have e3 := (hT.b.cell (p := ⟨w.heap.size, 3, none⟩) hBox).trans s3
    have hs6 := hT.b.size
    have hy6 : w.heap.size < wr.heap.size := by omega
    by_cases hlt : i < n
    · have hlt' : (i : Int) < (n : Int) := by omega
      have hil : i < oq.length := by rw [HN.out]; exact hlt
      have hjl : oq.length - 1 - i < oq.length := by omega
      have hnm : oq.length - 1 - i = n - 1 - i := by rw [HN.out]
      rcases HO.out.row with h0 | ⟨b, o, hbo, hb, hcs⟩
      · exfalso; rw [HQ.out, h0] at hil; simp at hil
      cases hbo
      have hb' : b < W0.heap.size := by omega
      have hcs' : ∀ (t : Nat) (W : World), t < oq.length → Below W0.heap.size W0 W → W.cell? ⟨b, o + t * 3, none⟩ = some (.int .i64 (oq[t]?.getD default).kind) ∧ W.cell? ⟨b, o + t * 3 + 1, none⟩ = some (.float .f64 (oq[t]?.getD default).key) ∧ W.cell? ⟨b, o + t * 3 + 2, none⟩ = some (.int .i64 (oq[t]?.getD default).n) ∧ (oq[t]?.getD default).key < 2 ^ 64 := fun t W ht hbW => by
        have ht' : t < ops.length := by rw [← HQ.out]; exact ht
        have e : oq[t]? = ops[t]? := by rw [HQ.out]
        rw [e]
        have k := fun j => (hbW.cell (p := ⟨b, j, none⟩) hb').trans (hB0.cell (p := ⟨b, j, none⟩) hb)
        exact ⟨(k _).trans (hcs t ht').1, (k _).trans (hcs t ht').2.1, (k _).trans (hcs t ht').2.2, HO.out.lt t ht'⟩
      obtain ⟨d0, d1, d2, hkx⟩ := hcs' i wr hil hT.b
      have hq := fun W => hcs' (n - 1 - i) W (by omega)
      clear hcs hcs'
      have hx := hid (op_some hil)
      have hy : oq.reverse[i]? = some (oq[oq.length - 1 - i]?.getD default) := by
        rw [List.getElem?_reverse hil]; exact op_some hjl
      rw [hnm] at hy hjl
      have hy := hid hy
      have hsub : (n : Int) - 1 - (i : Int) = ((n - 1 - i : Nat) : Int) := by omega
      have hsub2 : ((n - 1 - i : Nat) : Int) < (n : Int) := by omega
      have hsub3 : (0 : Int) ≤ ((n - 1 - i : Nat) : Int) := by omega
      have hr1 := putAll_rises List.Pairwise.nil 64 (oq.take i)
      have hp1 := putAll_pos pos_nil 64 (oq.take i)
      generalize oq[i]?.getD default = x at *
      generalize oq[n - 1 - i]?.getD default = y at *
      have HX := hid (putAll_snoc [] 64 hx.out)
      have HY := hid (putAll_snoc [] 64 hy.out)
      generalize putAll [] 64 (oq.take i) = i1 at *
      generalize putAll [] 64 (oq.reverse.take i) = i2 at *
      have hd := putI_dom hr1 hp1 64 x.key x.n
      have m1 := dom_at (putI_rises hr1 64 x.key x.n) (putI_pos hp1 64 x.key x.n) hd key
      have m2 := dom_over hd r
      have m3 := putI_at hr1 hp1 64 x.key x.n
      obtain ⟨c0, i1', hput⟩ : ∃ c0 i1', putI i1 64 x.key x.n = (c0, i1') := ⟨_, _, rfl⟩
      obtain ⟨c2, i2', hput2⟩ : ∃ c0 i1', putI i2 64 y.key y.n = (c0, i1') := ⟨_, _, rfl⟩
      rw [hput] at m1 m2 m3 hd HX
      rw [hput2] at HY
      have Hput := hid hput
      have Hput2 := hid hput2
      simp only at m1 m2 m3
      obtain ⟨v1, V1⟩ : ∃ v, Hid (atI i1 key = v) := ⟨_, hid rfl⟩
      obtain ⟨v2, V2⟩ : ∃ v, Hid (overI i1 (canonS lo hi b1 b2) = v) := ⟨_, hid rfl⟩
      obtain ⟨v3, V3⟩ : ∃ v, Hid (atI i1' key = v) := ⟨_, hid rfl⟩
      obtain ⟨v4, V4⟩ : ∃ v, Hid (overI i1' (canonS lo hi b1 b2) = v) := ⟨_, hid rfl⟩
      obtain ⟨v5, V5⟩ : ∃ v, Hid (atI i1' x.key = v) := ⟨_, hid rfl⟩
      rw [V1.out, V3.out] at m1
      rw [← HR.out, V2.out, V4.out] at m2
      rw [V5.out] at m3
      clear hput hput2 hd hr1 hp1 hil hjl hrev
      go_wp2
      (refine wp_region_ext (by kernel_rfl) (by kernel_rfl) ?_; (repeat (go_big_quiet_step (first | (go_at_call 13; with_reducible exact Calls.ext_of (tab_at (Tab1.below (Tab1.below hT.fst (by (repeat (first | with_reducible exact Below.refl _ _ | ((with_reducible refine Below.alloc1 ?_ ?_ _); (· first | omega | (simp; done) | (simp; omega))) | (with_reducible refine Below.drew ?_) | (with_reducible refine below_drewN' ?_ _) | ((with_reducible refine Below.setCell1 ?_ ?_ _); (· first | omega | (simp; done) | (simp; omega))) | ((with_reducible refine Below.after (by assumption) ?_ ?_); (· first | omega | (simp; done) | (simp; omega))))))) (Ext.b _)) key v1 hkey V1)) | (go_at_call 14; with_reducible exact Calls.ext_of (tab_over (Tab1.below (Tab1.below hT.fst (by (repeat (first | with_reducible exact Below.refl _ _ | ((with_reducible refine Below.alloc1 ?_ ?_ _); (· first | omega | (simp; done) | (simp; omega))) | (with_reducible refine Below.drew ?_) | (with_reducible refine below_drewN' ?_ _) | ((with_reducible refine Below.setCell1 ?_ ?_ _); (· first | omega | (simp; done) | (simp; omega))) | ((with_reducible refine Below.after (by assumption) ?_ ?_); (· first | omega | (simp; done) | (simp; omega))))))) (Ext.b _)) lo hi b1 b2 v2 hl hh V2))))); refine wpQuiet_nil ?_; rintro w4 ⟨x4, hx4⟩; have hb4 := x4.b; rw [← hx4] at hb4; clear hx4 x4; obtain ⟨hc4, hf4⟩ := bcell hb4; (try simp only [World.heap_drewN, World.cell?_drewN, World.frozen?_drewN] at hc4 hf4); have hz4 := hb4.size; (try simp at hz4); (try have hy4_0 : w.heap.size < w4.heap.size := by omega); (try have hy4_1 : w.heap.size + 1 < w4.heap.size := by omega); (try have hy4_2 : w.heap.size + 2 < w4.heap.size := by omega); (try have hy4_3 : w.heap.size + 3 < w4.heap.size := by omega); (try have hx4_0 : w.heap.size ≤ w4.heap.size := by omega); (try have hx4_1 : w.heap.size + 1 ≤ w4.heap.size := by omega); (try have hx4_2 : w.heap.size + 2 ≤ w4.heap.size := by omega); (try have hu4_wr_0 : wr.heap.size < w4.heap.size := by omega); (try have hu4_wr_1 : wr.heap.size + 1 < w4.heap.size := by omega))
      go_wp2_with fail
      with_reducible refine (tab2_put_f (i' := i1') hT (by (repeat (first | with_reducible exact Below.refl _ _ | ((with_reducible refine Below.alloc1 ?_ ?_ _); (· first | omega | (simp; done) | (simp; omega))) | (with_reducible refine Below.drew ?_) | (with_reducible refine below_drewN' ?_ _) | ((with_reducible refine Below.setCell1 ?_ ?_ _); (· first | omega | (simp; done) | (simp; omega))) | ((with_reducible refine Below.after (by assumption) ?_ ?_); (· first | omega | (simp; done) | (simp; omega)))))) _ _ c0 hkx Hput).mono ?_
      rintro e w5 ⟨rfl, hT5, hz5, hk5⟩
      have q1 : w5.cell? ⟨wr.heap.size, 1, none⟩ = some (.float .f64 x.key) := by
        rw [hk5 _ (Nat.le_refl _) (by assumption)]; simp [go_sem, hc4]
      have q2 : w5.cell? ⟨wr.heap.size, 2, none⟩ = some (.int .i64 x.n) := by
        rw [hk5 _ (Nat.le_refl _) (by assumption)]; simp [go_sem, hc4]
      have hy5 : w.heap.size < w5.heap.size := by omega
      have hs5 := hT5.b.size
      have hb5' : b < w5.heap.size := by omega
      obtain ⟨p0, p1, p2, hky⟩ := hq w5 hT5.b
      clear hq
      have hy5' : wr.heap.size < w5.heap.size := by omega
      have f0 := (hT5.b.cell (p := ⟨w.heap.size, 0, none⟩) hBox).trans s0
      have f1 := (hT5.b.cell (p := ⟨w.heap.size, 1, none⟩) hBox).trans s1
      have f2 := (hT5.b.cell (p := ⟨w.heap.size, 2, none⟩) hBox).trans s2
      have f3 := (hT5.b.cell (p := ⟨w.heap.size, 3, none⟩) hBox).trans s3
      have hg1 : decide (v3 < v1) = false := by simp; omega
      have hg2 : decide (v4 < v2) = false := by simp; omega
      by_cases hc0 : c0 = 0
      · subst hc0
        have hg3 : decide (v5 < x.n) = false := by have := m3 rfl; simp; omega
        clear m1 m2 m3
        go_wp2
        (refine wp_region_ext (by kernel_rfl) (by kernel_rfl) ?_; (repeat (go_big_quiet_step (first | (go_at_call 13; with_reducible exact Calls.ext_of (tab_at (Tab1.below (Tab1.below hT5.fst (by (repeat (first | with_reducible exact Below.refl _ _ | ((with_reducible refine Below.alloc1 ?_ ?_ _); (· first | omega | (simp; done) | (simp; omega))) | (with_reducible refine Below.drew ?_) | (with_reducible refine below_drewN' ?_ _) | ((with_reducible refine Below.setCell1 ?_ ?_ _); (· first | omega | (simp; done) | (simp; omega))) | ((with_reducible refine Below.after (by assumption) ?_ ?_); (· first | omega | (simp; done) | (simp; omega))))))) (Ext.b _)) key v3 hkey V3)) | (go_at_call 14; with_reducible exact Calls.ext_of (tab_over (Tab1.below (Tab1.below hT5.fst (by (repeat (first | with_reducible exact Below.refl _ _ | ((with_reducible refine Below.alloc1 ?_ ?_ _); (· first | omega | (simp; done) | (simp; omega))) | (with_reducible refine Below.drew ?_) | (with_reducible refine below_drewN' ?_ _) | ((with_reducible refine Below.setCell1 ?_ ?_ _); (· first | omega | (simp; done) | (simp; omega))) | ((with_reducible refine Below.after (by assumption) ?_ ?_); (· first | omega | (simp; done) | (simp; omega))))))) (Ext.b _)) lo hi b1 b2 v4 hl hh V4)) | (go_at_call 13; with_reducible exact Calls.ext_of (tab_at (Tab1.below (Tab1.below hT5.fst (by (repeat (first | with_reducible exact Below.refl _ _ | ((with_reducible refine Below.alloc1 ?_ ?_ _); (· first | omega | (simp; done) | (simp; omega))) | (with_reducible refine Below.drew ?_) | (with_reducible refine below_drewN' ?_ _) | ((with_reducible refine Below.setCell1 ?_ ?_ _); (· first | omega | (simp; done) | (simp; omega))) | ((with_reducible refine Below.after (by assumption) ?_ ?_); (· first | omega | (simp; done) | (simp; omega))))))) (Ext.b _)) x.key v5 hkx V5))))); refine wpQuiet_nil ?_; rintro w6 ⟨x6, hx6⟩; have hb6 := x6.b; rw [← hx6] at hb6; clear hx6 x6; obtain ⟨hc6, hf6⟩ := bcell hb6; (try simp only [World.heap_drewN, World.cell?_drewN, World.frozen?_drewN] at hc6 hf6); have hz6 := hb6.size; (try simp at hz6); (try have hy6_0 : w.heap.size < w6.heap.size := by omega); (try have hy6_1 : w.heap.size + 1 < w6.heap.size := by omega); (try have hy6_2 : w.heap.size + 2 < w6.heap.size := by omega); (try have hy6_3 : w.heap.size + 3 < w6.heap.size := by omega); (try have hx6_0 : w.heap.size ≤ w6.heap.size := by omega); (try have hx6_1 : w.heap.size + 1 ≤ w6.heap.size := by omega); (try have hx6_2 : w.heap.size + 2 ≤ w6.heap.size := by omega); (try have hu6_wr_0 : wr.heap.size < w6.heap.size := by omega); (try have hu6_wr_1 : wr.heap.size + 1 < w6.heap.size := by omega); (try have hu6_w5_0 : w5.heap.size < w6.heap.size := by omega); (try have hu6_w5_1 : w5.heap.size + 1 < w6.heap.size := by omega))
        go_wp2_with fail
        with_reducible refine (tab2_put2 (i' := i2') (Tab2.below hT5 (by (repeat (first | with_reducible exact Below.refl _ _ | ((with_reducible refine Below.alloc1 ?_ ?_ _); (· first | omega | (simp; done) | (simp; omega))) | (with_reducible refine Below.drew ?_) | (with_reducible refine below_drewN' ?_ _) | ((with_reducible refine Below.setCell1 ?_ ?_ _); (· first | omega | (simp; done) | (simp; omega))) | ((with_reducible refine Below.after (by assumption) ?_ ?_); (· first | omega | (simp; done) | (simp; omega))))))) _ _ c2 hky Hput2).mono ?_
        rintro e w7 ⟨rfl, hT7⟩
        go_wp2
        go_roundw
        case rel => exact ⟨i + 1, by omega, by go_num, by rw [HX.out, HY.out]; exact hT7⟩
        case measure => simp [intOf]; omega
      · have hc1 : (c0 == 0) = false := by simpa using hc0
        clear m1 m2 m3
        go_wp2
        (refine wp_region_ext (by kernel_rfl) (by kernel_rfl) ?_; (repeat (go_big_quiet_step (first | (go_at_call 13; with_reducible exact Calls.ext_of (tab_at (Tab1.below (Tab1.below hT5.fst (by (repeat (first | with_reducible exact Below.refl _ _ | ((with_reducible refine Below.alloc1 ?_ ?_ _); (· first | omega | (simp; done) | (simp; omega))) | (with_reducible refine Below.drew ?_) | (with_reducible refine below_drewN' ?_ _) | ((with_reducible refine Below.setCell1 ?_ ?_ _); (· first | omega | (simp; done) | (simp; omega))) | ((with_reducible refine Below.after (by assumption) ?_ ?_); (· first | omega | (simp; done) | (simp; omega))))))) (Ext.b _)) key v3 hkey V3)) | (go_at_call 14; with_reducible exact Calls.ext_of (tab_over (Tab1.below (Tab1.below hT5.fst (by (repeat (first | with_reducible exact Below.refl _ _ | ((with_reducible refine Below.alloc1 ?_ ?_ _); (· first | omega | (simp; done) | (simp; omega))) | (with_reducible refine Below.drew ?_) | (with_reducible refine below_drewN' ?_ _) | ((with_reducible refine Below.setCell1 ?_ ?_ _); (· first | omega | (simp; done) | (simp; omega))) | ((with_reducible refine Below.after (by assumption) ?_ ?_); (· first | omega | (simp; done) | (simp; omega))))))) (Ext.b _)) lo hi b1 b2 v4 hl hh V4))))); refine wpQuiet_nil ?_; rintro w6 ⟨x6, hx6⟩; have hb6 := x6.b; rw [← hx6] at hb6; clear hx6 x6; obtain ⟨hc6, hf6⟩ := bcell hb6; (try simp only [World.heap_drewN, World.cell?_drewN, World.frozen?_drewN] at hc6 hf6); have hz6 := hb6.size; (try simp at hz6); (try have hy6_0 : w.heap.size < w6.heap.size := by omega); (try have hy6_1 : w.heap.size + 1 < w6.heap.size := by omega); (try have hy6_2 : w.heap.size + 2 < w6.heap.size := by omega); (try have hy6_3 : w.heap.size + 3 < w6.heap.size := by omega); (try have hx6_0 : w.heap.size ≤ w6.heap.size := by omega); (try have hx6_1 : w.heap.size + 1 ≤ w6.heap.size := by omega); (try have hx6_2 : w.heap.size + 2 ≤ w6.heap.size := by omega); (try have hu6_wr_0 : wr.heap.size < w6.heap.size := by omega); (try have hu6_wr_1 : wr.heap.size + 1 < w6.heap.size := by omega); (try have hu6_w5_0 : w5.heap.size < w6.heap.size := by omega); (try have hu6_w5_1 : w5.heap.size + 1 < w6.heap.size := by omega))
        go_wp2_with fail
        with_reducible refine (tab2_put2 (i' := i2') (Tab2.below hT5 (by (repeat (first | with_reducible exact Below.refl _ _ | ((with_reducible refine Below.alloc1 ?_ ?_ _); (· first | omega | (simp; done) | (simp; omega))) | (with_reducible refine Below.drew ?_) | (with_reducible refine below_drewN' ?_ _) | ((with_reducible refine Below.setCell1 ?_ ?_ _); (· first | omega | (simp; done) | (simp; omega))) | ((with_reducible refine Below.after (by assumption) ?_ ?_); (· first | omega | (simp; done) | (simp; omega))))))) _ _ c2 hky Hput2).mono ?_
        rintro e w7 ⟨rfl, hT7⟩
        go_wp2
        go_roundw
        case rel => exact ⟨i + 1, by omega, by go_num, by rw [HX.out, HY.out]; exact hT7⟩
        case measure => simp [intOf]; omega
    · obtain rfl : i = n := by omega
      have hT : Tab2 W0 wr T T2 64 (putAll [] 64 oq) (putAll [] 64 oq) := by
        have h1 : oq.take i = oq := by rw [← HN.out]; exact List.take_length
        have h2 : oq.reverse.take i = oq.reverse := by rw [← HN.out, ← List.length_reverse]; exact List.take_length
        rw [h1, h2, hrev] at hT; exact hT
      generalize putAll [] 64 oq = its at *
      clear hrev
      obtain ⟨v1, V1⟩ : ∃ v, Hid (atI its key = v) := ⟨_, hid rfl⟩
      obtain ⟨v2, V2⟩ : ∃ v, Hid (overI its (canonS lo hi b1 b2) = v) := ⟨_, hid rfl⟩
      obtain ⟨v3, V3⟩ : ∃ v, Hid ((its.length : Int) = v) := ⟨_, hid rfl⟩
      have h1 := hT.fst
      have h2 := hT.snd
      go_wp2
      (refine wp_region_ext (by kernel_rfl) (by kernel_rfl) ?_; (repeat (go_big_quiet_step (first | (go_at_call 13; with_reducible exact Calls.ext_of (tab_at (T := T) (Tab1.below (Tab1.below h1 (by (repeat (first | with_reducible exact Below.refl _ _ | ((with_reducible refine Below.alloc1 ?_ ?_ _); (· first | omega | (simp; done) | (simp; omega))) | (with_reducible refine Below.drew ?_) | (with_reducible refine below_drewN' ?_ _) | ((with_reducible refine Below.setCell1 ?_ ?_ _); (· first | omega | (simp; done) | (simp; omega))) | ((with_reducible refine Below.after (by assumption) ?_ ?_); (· first | omega | (simp; done) | (simp; omega))))))) (Ext.b _)) key v1 hkey V1)) | (go_at_call 13; with_reducible exact Calls.ext_of (tab_at (T := T2) (Tab1.below (Tab1.below h2 (by (repeat (first | with_reducible exact Below.refl _ _ | ((with_reducible refine Below.alloc1 ?_ ?_ _); (· first | omega | (simp; done) | (simp; omega))) | (with_reducible refine Below.drew ?_) | (with_reducible refine below_drewN' ?_ _) | ((with_reducible refine Below.setCell1 ?_ ?_ _); (· first | omega | (simp; done) | (simp; omega))) | ((with_reducible refine Below.after (by assumption) ?_ ?_); (· first | omega | (simp; done) | (simp; omega))))))) (Ext.b _)) key v1 hkey V1)) | (go_at_call 14; with_reducible exact Calls.ext_of (tab_over (T := T) (Tab1.below (Tab1.below h1 (by (repeat (first | with_reducible exact Below.refl _ _ | ((with_reducible refine Below.alloc1 ?_ ?_ _); (· first | omega | (simp; done) | (simp; omega))) | (with_reducible refine Below.drew ?_) | (with_reducible refine below_drewN' ?_ _) | ((with_reducible refine Below.setCell1 ?_ ?_ _); (· first | omega | (simp; done) | (simp; omega))) | ((with_reducible refine Below.after (by assumption) ?_ ?_); (· first | omega | (simp; done) | (simp; omega))))))) (Ext.b _)) lo hi b1 b2 v2 hl hh V2)) | (go_at_call 14; with_reducible exact Calls.ext_of (tab_over (T := T2) (Tab1.below (Tab1.below h2 (by (repeat (first | with_reducible exact Below.refl _ _ | ((with_reducible refine Below.alloc1 ?_ ?_ _); (· first | omega | (simp; done) | (simp; omega))) | (with_reducible refine Below.drew ?_) | (with_reducible refine below_drewN' ?_ _) | ((with_reducible refine Below.setCell1 ?_ ?_ _); (· first | omega | (simp; done) | (simp; omega))) | ((with_reducible refine Below.after (by assumption) ?_ ?_); (· first | omega | (simp; done) | (simp; omega))))))) (Ext.b _)) lo hi b1 b2 v2 hl hh V2)) | (go_at_call 16; with_reducible exact Calls.ext_of (tab_len (T := T) (Tab1.below (Tab1.below h1 (by (repeat (first | with_reducible exact Below.refl _ _ | ((with_reducible refine Below.alloc1 ?_ ?_ _); (· first | omega | (simp; done) | (simp; omega))) | (with_reducible refine Below.drew ?_) | (with_reducible refine below_drewN' ?_ _) | ((with_reducible refine Below.setCell1 ?_ ?_ _); (· first | omega | (simp; done) | (simp; omega))) | ((with_reducible refine Below.after (by assumption) ?_ ?_); (· first | omega | (simp; done) | (simp; omega))))))) (Ext.b _)) v3 V3)) | (go_at_call 16; with_reducible exact Calls.ext_of (tab_len (T := T2) (Tab1.below (Tab1.below h2 (by (repeat (first | with_reducible exact Below.refl _ _ | ((with_reducible refine Below.alloc1 ?_ ?_ _); (· first | omega | (simp; done) | (simp; omega))) | (with_reducible refine Below.drew ?_) | (with_reducible refine below_drewN' ?_ _) | ((with_reducible refine Below.setCell1 ?_ ?_ _); (· first | omega | (simp; done) | (simp; omega))) | ((with_reducible refine Below.after (by assumption) ?_ ?_); (· first | omega | (simp; done) | (simp; omega))))))) (Ext.b _)) v3 V3))))); refine wpQuiet_nil ?_; rintro w4 ⟨x4, hx4⟩; have hb4 := x4.b; rw [← hx4] at hb4; clear hx4 x4; obtain ⟨hc4, hf4⟩ := bcell hb4; (try simp only [World.heap_drewN, World.cell?_drewN, World.frozen?_drewN] at hc4 hf4); have hz4 := hb4.size; (try simp at hz4); (try have hy4_0 : w.heap.size < w4.heap.size := by omega); (try have hy4_1 : w.heap.size + 1 < w4.heap.size := by omega); (try have hy4_2 : w.heap.size + 2 < w4.heap.size := by omega); (try have hy4_3 : w.heap.size + 3 < w4.heap.size := by omega); (try have hx4_0 : w.heap.size ≤ w4.heap.size := by omega); (try have hx4_1 : w.heap.size + 1 ≤ w4.heap.size := by omega); (try have hx4_2 : w.heap.size + 2 ≤ w4.heap.size := by omega); (try have hu4_wr_0 : wr.heap.size < w4.heap.size := by omega); (try have hu4_wr_1 : wr.heap.size + 1 < w4.heap.size := by omega))
      go_wp2
      go_ret
      have hfin := hT.b
      exact ⟨rfl, by (repeat (first | with_reducible exact Below.refl _ _ | ((with_reducible refine Below.alloc1 ?_ ?_ _); (· first | omega | (simp; done) | (simp; omega))) | (with_reducible refine Below.drew ?_) | (with_reducible refine below_drewN' ?_ _) | ((with_reducible refine Below.setCell1 ?_ ?_ _); (· first | omega | (simp; done) | (simp; omega))) | ((with_reducible refine Below.after (by assumption) ?_ ?_); (· first | omega | (simp; done) | (simp; omega)))))⟩

set_option maxRecDepth 100000 in
theorem versGrows_cut (a : Option Addr) (c : Nat) (ops : List OpV) (key lo hi : Nat) (b1 b2 : Bool) (w : World) (ho : OAt w a ops) (hca : ops.length ≤ c ∧ c ≤ 9223372036854775807) (hlen : 60 < ops.length) (hkey : key < 2 ^ 64) (hl : lo < 2 ^ 64) (hh : hi < 2 ^ 64) :
    Calls Try.prog 3 #[.slice a ops.length c, .float .f64 key, .agg #[.float .f64 lo, .float .f64 hi, .bool b1, .bool b2]] w (Ret (.bool true) w) := by
  obtain ⟨n, hn⟩ : ∃ n, ops.length = n := ⟨_, rfl⟩
  have hmax : n ≤ 9223372036854775807 := by have := ho.len; unfold maxLen at this; omega
  have HO := hid ho
  rw [hn] at hlen hca ⊢
  obtain ⟨oq, hoq⟩ : ∃ oq, oq = ops.take 60 := ⟨_, rfl⟩
  have HQ := hid hoq
  clear hoq
  have hlenI : (60 : Int) < (n : Int) := by omega
  rcases HO.out.row with h0 | ⟨b, o, rfl, _, _⟩
  · exfalso; rw [h0] at hn; simp at hn; omega
  have HN : Hid (oq.length = 60) := hid (by rw [HQ.out, List.length_take]; omega)
  have hrev := putAll_rev 64 oq (by rw [HN.out]; omega)
  obtain ⟨r, hr⟩ : ∃ r, canonS lo hi b1 b2 = r := ⟨_, rfl⟩
  have HR := hid hr
  clear ho hn hr
  go_enter Try.func3, Try.ntmps3
  go_wp2_with fail
  with_reducible refine (tab_new (Below.refl _ _) 64 (by omega) (by omega)).mono ?_
  rintro e w1 ⟨T, rfl, hT0⟩
  obtain ⟨W0, hW0⟩ : ∃ W0, W0 = w.alloc (.cells #[.float .f64 lo, .float .f64 hi, .bool b1, .bool b2] 25) := ⟨_, rfl⟩
  have hB0 : Below w.heap.size w W0 := by rw [hW0]; (repeat (first | with_reducible exact Below.refl _ _ | ((with_reducible refine Below.alloc1 ?_ ?_ _); (· first | omega | (simp; done) | (simp; omega))) | (with_reducible refine Below.drew ?_) | (with_reducible refine below_drewN' ?_ _) | ((with_reducible refine Below.setCell1 ?_ ?_ _); (· first | omega | (simp; done) | (simp; omega))) | ((with_reducible refine Below.after (by assumption) ?_ ?_); (· first | omega | (simp; done) | (simp; omega)))))
  have hz0 : W0.heap.size = w.heap.size + 1 := by rw [hW0]; simp
  have s0 : W0.cell? ⟨w.heap.size, 0, none⟩ = some (.float .f64 lo) := by rw [hW0]; simp [go_sem]
  have s1 : W0.cell? ⟨w.heap.size, 1, none⟩ = some (.float .f64 hi) := by rw [hW0]; simp [go_sem]
  have s2 : W0.cell? ⟨w.heap.size, 2, none⟩ = some (.bool b1) := by rw [hW0]; simp [go_sem]
  have s3 : W0.cell? ⟨w.heap.size, 3, none⟩ = some (.bool b2) := by rw [hW0]; simp [go_sem]
  have hT1 : Tab1 W0 w1 T 64 [] := by rw [hW0]; exact hT0
  clear hT0 hW0
  have hBox : w.heap.size < W0.heap.size := by omega
  go_wp2_with fail
  with_reducible refine (tab2_new hT1).mono ?_
  rintro e w2 ⟨T2, rfl, hT2⟩
  clear hT1
  go_wp2_with (go_at_call 12; (with_reducible refine (alive_any _).mono ?_); rintro e w3 ⟨rfl, hb3⟩; obtain ⟨hc3, hf3⟩ := bcell hb3; (try simp only [World.heap_drewN, World.cell?_drewN, World.frozen?_drewN] at hc3 hf3); have hz3 := hb3.size; (try simp at hz3); (try have hy3_0 : w.heap.size < w3.heap.size := by omega); (try have hy3_1 : w.heap.size + 1 < w3.heap.size := by omega); (try have hy3_2 : w.heap.size + 2 < w3.heap.size := by omega); (try have hy3_3 : w.heap.size + 3 < w3.heap.size := by omega); (try have hx3_0 : w.heap.size ≤ w3.heap.size := by omega); (try have hx3_1 : w.heap.size + 1 ≤ w3.heap.size := by omega); (try have hx3_2 : w.heap.size + 2 ≤ w3.heap.size := by omega))
  have hT3 : Tab2 W0 w3 T T2 64 [] [] := hT2.below hb3
  clear hT2 hb3 hc3 hf3 hlen
  go_loopw [34] (fun iv wr => ∃ i : Nat, i ≤ 60 ∧ iv = .int .i64 i ∧ Tab2 W0 wr T T2 64 (putAll [] 64 (oq.take i)) (putAll [] 64 (oq.reverse.take i))) (fun iv _ => 60 - (intOf iv).toNat)
  case atStart => exact ⟨0, Nat.zero_le _, rfl, hT3⟩
  case round =>
    obtain ⟨i, hin, rfl, hT⟩ := hrel
    clear hT3
    have e0 := (hT.b.cell (p := ⟨w.heap.size, 0, none⟩) hBox).trans s0
    have e1 := (hT.b.cell (p := ⟨w.heap.size, 1, none⟩) hBox).trans s1
    have e2 := (hT.b.cell (p := ⟨w.heap.size, 2, none⟩) hBox).trans s2
    have e3 := (hT.b.cell (p := ⟨w.heap.size, 3, none⟩) hBox).trans s3
    have hs6 := hT.b.size
    have hy6 : w.heap.size < wr.heap.size := by omega
    by_cases hlt : i < 60
    · have hlt' : (i : Int) < (60 : Int) := by omega
      have hil : i < oq.length := by rw [HN.out]; exact hlt
      have hjl : oq.length - 1 - i < oq.length := by omega
      have hnm : oq.length - 1 - i = 59 - i := by rw [HN.out]
      rcases HO.out.row with h0 | ⟨b, o, hbo, hb, hcs⟩
      · exfalso; rw [HQ.out, h0] at hil; simp at hil
      cases hbo
      have hb' : b < W0.heap.size := by omega
      have hcs' : ∀ (t : Nat) (W : World), t < oq.length → Below W0.heap.size W0 W → W.cell? ⟨b, o + t * 3, none⟩ = some (.int .i64 (oq[t]?.getD default).kind) ∧ W.cell? ⟨b, o + t * 3 + 1, none⟩ = some (.float .f64 (oq[t]?.getD default).key) ∧ W.cell? ⟨b, o + t * 3 + 2, none⟩ = some (.int .i64 (oq[t]?.getD default).n) ∧ (oq[t]?.getD default).key < 2 ^ 64 := fun t W ht hbW => by
        have ht' : t < ops.length := by rw [HQ.out, List.length_take] at ht; omega
        have e : oq[t]? = ops[t]? := by rw [HQ.out, List.length_take] at ht; rw [HQ.out, List.getElem?_take, if_pos (by omega)]
        rw [e]
        have k := fun j => (hbW.cell (p := ⟨b, j, none⟩) hb').trans (hB0.cell (p := ⟨b, j, none⟩) hb)
        exact ⟨(k _).trans (hcs t ht').1, (k _).trans (hcs t ht').2.1, (k _).trans (hcs t ht').2.2, HO.out.lt t ht'⟩
      obtain ⟨d0, d1, d2, hkx⟩ := hcs' i wr hil hT.b
      have hq := fun W => hcs' (59 - i) W (by omega)
      clear hcs hcs'
      have hx := hid (op_some hil)
      have hy : oq.reverse[i]? = some (oq[oq.length - 1 - i]?.getD default) := by
        rw [List.getElem?_reverse hil]; exact op_some hjl
      rw [hnm] at hy hjl
      have hy := hid hy
      have hsub : (60 : Int) - 1 - (i : Int) = ((59 - i : Nat) : Int) := by omega
      have hsub2 : ((59 - i : Nat) : Int) < (60 : Int) := by omega
      have hsub3 : (0 : Int) ≤ ((59 - i : Nat) : Int) := by omega
      have hr1 := putAll_rises List.Pairwise.nil 64 (oq.take i)
      have hp1 := putAll_pos pos_nil 64 (oq.take i)
      generalize oq[i]?.getD default = x at *
      generalize oq[59 - i]?.getD default = y at *
      have HX := hid (putAll_snoc [] 64 hx.out)
      have HY := hid (putAll_snoc [] 64 hy.out)
      generalize putAll [] 64 (oq.take i) = i1 at *
      generalize putAll [] 64 (oq.reverse.take i) = i2 at *
      have hd := putI_dom hr1 hp1 64 x.key x.n
      have m1 := dom_at (putI_rises hr1 64 x.key x.n) (putI_pos hp1 64 x.key x.n) hd key
      have m2 := dom_over hd r
      have m3 := putI_at hr1 hp1 64 x.key x.n
      obtain ⟨c0, i1', hput⟩ : ∃ c0 i1', putI i1 64 x.key x.n = (c0, i1') := ⟨_, _, rfl⟩
      obtain ⟨c2, i2', hput2⟩ : ∃ c0 i1', putI i2 64 y.key y.n = (c0, i1') := ⟨_, _, rfl⟩
      rw [hput] at m1 m2 m3 hd HX
      rw [hput2] at HY
      have Hput := hid hput
      have Hput2 := hid hput2
      simp only at m1 m2 m3
      obtain ⟨v1, V1⟩ : ∃ v, Hid (atI i1 key = v) := ⟨_, hid rfl⟩
      obtain ⟨v2, V2⟩ : ∃ v, Hid (overI i1 (canonS lo hi b1 b2) = v) := ⟨_, hid rfl⟩
      obtain ⟨v3, V3⟩ : ∃ v, Hid (atI i1' key = v) := ⟨_, hid rfl⟩
      obtain ⟨v4, V4⟩ : ∃ v, Hid (overI i1' (canonS lo hi b1 b2) = v) := ⟨_, hid rfl⟩
      obtain ⟨v5, V5⟩ : ∃ v, Hid (atI i1' x.key = v) := ⟨_, hid rfl⟩
      rw [V1.out, V3.out] at m1
      rw [← HR.out, V2.out, V4.out] at m2
      rw [V5.out] at m3
      clear hput hput2 hd hr1 hp1 hil hjl hrev
      go_wp2
      (refine wp_region_ext (by kernel_rfl) (by kernel_rfl) ?_; (repeat (go_big_quiet_step (first | (go_at_call 13; with_reducible exact Calls.ext_of (tab_at (Tab1.below (Tab1.below hT.fst (by (repeat (first | with_reducible exact Below.refl _ _ | ((with_reducible refine Below.alloc1 ?_ ?_ _); (· first | omega | (simp; done) | (simp; omega))) | (with_reducible refine Below.drew ?_) | (with_reducible refine below_drewN' ?_ _) | ((with_reducible refine Below.setCell1 ?_ ?_ _); (· first | omega | (simp; done) | (simp; omega))) | ((with_reducible refine Below.after (by assumption) ?_ ?_); (· first | omega | (simp; done) | (simp; omega))))))) (Ext.b _)) key v1 hkey V1)) | (go_at_call 14; with_reducible exact Calls.ext_of (tab_over (Tab1.below (Tab1.below hT.fst (by (repeat (first | with_reducible exact Below.refl _ _ | ((with_reducible refine Below.alloc1 ?_ ?_ _); (· first | omega | (simp; done) | (simp; omega))) | (with_reducible refine Below.drew ?_) | (with_reducible refine below_drewN' ?_ _) | ((with_reducible refine Below.setCell1 ?_ ?_ _); (· first | omega | (simp; done) | (simp; omega))) | ((with_reducible refine Below.after (by assumption) ?_ ?_); (· first | omega | (simp; done) | (simp; omega))))))) (Ext.b _)) lo hi b1 b2 v2 hl hh V2))))); refine wpQuiet_nil ?_; rintro w4 ⟨x4, hx4⟩; have hb4 := x4.b; rw [← hx4] at hb4; clear hx4 x4; obtain ⟨hc4, hf4⟩ := bcell hb4; (try simp only [World.heap_drewN, World.cell?_drewN, World.frozen?_drewN] at hc4 hf4); have hz4 := hb4.size; (try simp at hz4); (try have hy4_0 : w.heap.size < w4.heap.size := by omega); (try have hy4_1 : w.heap.size + 1 < w4.heap.size := by omega); (try have hy4_2 : w.heap.size + 2 < w4.heap.size := by omega); (try have hy4_3 : w.heap.size + 3 < w4.heap.size := by omega); (try have hx4_0 : w.heap.size ≤ w4.heap.size := by omega); (try have hx4_1 : w.heap.size + 1 ≤ w4.heap.size := by omega); (try have hx4_2 : w.heap.size + 2 ≤ w4.heap.size := by omega); (try have hu4_wr_0 : wr.heap.size < w4.heap.size := by omega); (try have hu4_wr_1 : wr.heap.size + 1 < w4.heap.size := by omega))
      go_wp2_with fail
      with_reducible refine (tab2_put_f (i' := i1') hT (by (repeat (first | with_reducible exact Below.refl _ _ | ((with_reducible refine Below.alloc1 ?_ ?_ _); (· first | omega | (simp; done) | (simp; omega))) | (with_reducible refine Below.drew ?_) | (with_reducible refine below_drewN' ?_ _) | ((with_reducible refine Below.setCell1 ?_ ?_ _); (· first | omega | (simp; done) | (simp; omega))) | ((with_reducible refine Below.after (by assumption) ?_ ?_); (· first | omega | (simp; done) | (simp; omega)))))) _ _ c0 hkx Hput).mono ?_
      rintro e w5 ⟨rfl, hT5, hz5, hk5⟩
      have q1 : w5.cell? ⟨wr.heap.size, 1, none⟩ = some (.float .f64 x.key) := by
        rw [hk5 _ (Nat.le_refl _) (by assumption)]; simp [go_sem, hc4]
      have q2 : w5.cell? ⟨wr.heap.size, 2, none⟩ = some (.int .i64 x.n) := by
        rw [hk5 _ (Nat.le_refl _) (by assumption)]; simp [go_sem, hc4]
      have hy5 : w.heap.size < w5.heap.size := by omega
      have hs5 := hT5.b.size
      have hb5' : b < w5.heap.size := by omega
      obtain ⟨p0, p1, p2, hky⟩ := hq w5 hT5.b
      clear hq
      have hy5' : wr.heap.size < w5.heap.size := by omega
      have f0 := (hT5.b.cell (p := ⟨w.heap.size, 0, none⟩) hBox).trans s0
      have f1 := (hT5.b.cell (p := ⟨w.heap.size, 1, none⟩) hBox).trans s1
      have f2 := (hT5.b.cell (p := ⟨w.heap.size, 2, none⟩) hBox).trans s2
      have f3 := (hT5.b.cell (p := ⟨w.heap.size, 3, none⟩) hBox).trans s3
      have hg1 : decide (v3 < v1) = false := by simp; omega
      have hg2 : decide (v4 < v2) = false := by simp; omega
      by_cases hc0 : c0 = 0
      · subst hc0
        have hg3 : decide (v5 < x.n) = false := by have := m3 rfl; simp; omega
        clear m1 m2 m3
        go_wp2
        (refine wp_region_ext (by kernel_rfl) (by kernel_rfl) ?_; (repeat (go_big_quiet_step (first | (go_at_call 13; with_reducible exact Calls.ext_of (tab_at (Tab1.below (Tab1.below hT5.fst (by (repeat (first | with_reducible exact Below.refl _ _ | ((with_reducible refine Below.alloc1 ?_ ?_ _); (· first | omega | (simp; done) | (simp; omega))) | (with_reducible refine Below.drew ?_) | (with_reducible refine below_drewN' ?_ _) | ((with_reducible refine Below.setCell1 ?_ ?_ _); (· first | omega | (simp; done) | (simp; omega))) | ((with_reducible refine Below.after (by assumption) ?_ ?_); (· first | omega | (simp; done) | (simp; omega))))))) (Ext.b _)) key v3 hkey V3)) | (go_at_call 14; with_reducible exact Calls.ext_of (tab_over (Tab1.below (Tab1.below hT5.fst (by (repeat (first | with_reducible exact Below.refl _ _ | ((with_reducible refine Below.alloc1 ?_ ?_ _); (· first | omega | (simp; done) | (simp; omega))) | (with_reducible refine Below.drew ?_) | (with_reducible refine below_drewN' ?_ _) | ((with_reducible refine Below.setCell1 ?_ ?_ _); (· first | omega | (simp; done) | (simp; omega))) | ((with_reducible refine Below.after (by assumption) ?_ ?_); (· first | omega | (simp; done) | (simp; omega))))))) (Ext.b _)) lo hi b1 b2 v4 hl hh V4)) | (go_at_call 13; with_reducible exact Calls.ext_of (tab_at (Tab1.below (Tab1.below hT5.fst (by (repeat (first | with_reducible exact Below.refl _ _ | ((with_reducible refine Below.alloc1 ?_ ?_ _); (· first | omega | (simp; done) | (simp; omega))) | (with_reducible refine Below.drew ?_) | (with_reducible refine below_drewN' ?_ _) | ((with_reducible refine Below.setCell1 ?_ ?_ _); (· first | omega | (simp; done) | (simp; omega))) | ((with_reducible refine Below.after (by assumption) ?_ ?_); (· first | omega | (simp; done) | (simp; omega))))))) (Ext.b _)) x.key v5 hkx V5))))); refine wpQuiet_nil ?_; rintro w6 ⟨x6, hx6⟩; have hb6 := x6.b; rw [← hx6] at hb6; clear hx6 x6; obtain ⟨hc6, hf6⟩ := bcell hb6; (try simp only [World.heap_drewN, World.cell?_drewN, World.frozen?_drewN] at hc6 hf6); have hz6 := hb6.size; (try simp at hz6); (try have hy6_0 : w.heap.size < w6.heap.size := by omega); (try have hy6_1 : w.heap.size + 1 < w6.heap.size := by omega); (try have hy6_2 : w.heap.size + 2 < w6.heap.size := by omega); (try have hy6_3 : w.heap.size + 3 < w6.heap.size := by omega); (try have hx6_0 : w.heap.size ≤ w6.heap.size := by omega); (try have hx6_1 : w.heap.size + 1 ≤ w6.heap.size := by omega); (try have hx6_2 : w.heap.size + 2 ≤ w6.heap.size := by omega); (try have hu6_wr_0 : wr.heap.size < w6.heap.size := by omega); (try have hu6_wr_1 : wr.heap.size + 1 < w6.heap.size := by omega); (try have hu6_w5_0 : w5.heap.size < w6.heap.size := by omega); (try have hu6_w5_1 : w5.heap.size + 1 < w6.heap.size := by omega))
        go_wp2_with fail
        with_reducible refine (tab2_put2 (i' := i2') (Tab2.below hT5 (by (repeat (first | with_reducible exact Below.refl _ _ | ((with_reducible refine Below.alloc1 ?_ ?_ _); (· first | omega | (simp; done) | (simp; omega))) | (with_reducible refine Below.drew ?_) | (with_reducible refine below_drewN' ?_ _) | ((with_reducible refine Below.setCell1 ?_ ?_ _); (· first | omega | (simp; done) | (simp; omega))) | ((with_reducible refine Below.after (by assumption) ?_ ?_); (· first | omega | (simp; done) | (simp; omega))))))) _ _ c2 hky Hput2).mono ?_
        rintro e w7 ⟨rfl, hT7⟩
        go_wp2
        go_roundw
        case rel => exact ⟨i + 1, by omega, by go_num, by rw [HX.out, HY.out]; exact hT7⟩
        case measure => simp [intOf]; omega
      · have hc1 : (c0 == 0) = false := by simpa using hc0
        clear m1 m2 m3
        go_wp2
        (refine wp_region_ext (by kernel_rfl) (by kernel_rfl) ?_; (repeat (go_big_quiet_step (first | (go_at_call 13; with_reducible exact Calls.ext_of (tab_at (Tab1.below (Tab1.below hT5.fst (by (repeat (first | with_reducible exact Below.refl _ _ | ((with_reducible refine Below.alloc1 ?_ ?_ _); (· first | omega | (simp; done) | (simp; omega))) | (with_reducible refine Below.drew ?_) | (with_reducible refine below_drewN' ?_ _) | ((with_reducible refine Below.setCell1 ?_ ?_ _); (· first | omega | (simp; done) | (simp; omega))) | ((with_reducible refine Below.after (by assumption) ?_ ?_); (· first | omega | (simp; done) | (simp; omega))))))) (Ext.b _)) key v3 hkey V3)) | (go_at_call 14; with_reducible exact Calls.ext_of (tab_over (Tab1.below (Tab1.below hT5.fst (by (repeat (first | with_reducible exact Below.refl _ _ | ((with_reducible refine Below.alloc1 ?_ ?_ _); (· first | omega | (simp; done) | (simp; omega))) | (with_reducible refine Below.drew ?_) | (with_reducible refine below_drewN' ?_ _) | ((with_reducible refine Below.setCell1 ?_ ?_ _); (· first | omega | (simp; done) | (simp; omega))) | ((with_reducible refine Below.after (by assumption) ?_ ?_); (· first | omega | (simp; done) | (simp; omega))))))) (Ext.b _)) lo hi b1 b2 v4 hl hh V4))))); refine wpQuiet_nil ?_; rintro w6 ⟨x6, hx6⟩; have hb6 := x6.b; rw [← hx6] at hb6; clear hx6 x6; obtain ⟨hc6, hf6⟩ := bcell hb6; (try simp only [World.heap_drewN, World.cell?_drewN, World.frozen?_drewN] at hc6 hf6); have hz6 := hb6.size; (try simp at hz6); (try have hy6_0 : w.heap.size < w6.heap.size := by omega); (try have hy6_1 : w.heap.size + 1 < w6.heap.size := by omega); (try have hy6_2 : w.heap.size + 2 < w6.heap.size := by omega); (try have hy6_3 : w.heap.size + 3 < w6.heap.size := by omega); (try have hx6_0 : w.heap.size ≤ w6.heap.size := by omega); (try have hx6_1 : w.heap.size + 1 ≤ w6.heap.size := by omega); (try have hx6_2 : w.heap.size + 2 ≤ w6.heap.size := by omega); (try have hu6_wr_0 : wr.heap.size < w6.heap.size := by omega); (try have hu6_wr_1 : wr.heap.size + 1 < w6.heap.size := by omega); (try have hu6_w5_0 : w5.heap.size < w6.heap.size := by omega); (try have hu6_w5_1 : w5.heap.size + 1 < w6.heap.size := by omega))
        go_wp2_with fail
        with_reducible refine (tab2_put2 (i' := i2') (Tab2.below hT5 (by (repeat (first | with_reducible exact Below.refl _ _ | ((with_reducible refine Below.alloc1 ?_ ?_ _); (· first | omega | (simp; done) | (simp; omega))) | (with_reducible refine Below.drew ?_) | (with_reducible refine below_drewN' ?_ _) | ((with_reducible refine Below.setCell1 ?_ ?_ _); (· first | omega | (simp; done) | (simp; omega))) | ((with_reducible refine Below.after (by assumption) ?_ ?_); (· first | omega | (simp; done) | (simp; omega))))))) _ _ c2 hky Hput2).mono ?_
        rintro e w7 ⟨rfl, hT7⟩
        go_wp2
        go_roundw
        case rel => exact ⟨i + 1, by omega, by go_num, by rw [HX.out, HY.out]; exact hT7⟩
        case measure => simp [intOf]; omega
    · obtain rfl : i = 60 := by omega
      have hT : Tab2 W0 wr T T2 64 (putAll [] 64 oq) (putAll [] 64 oq) := by
        have h1 : oq.take 60 = oq := by rw [← HN.out]; exact List.take_length
        have h2 : oq.reverse.take 60 = oq.reverse := by rw [← HN.out, ← List.length_reverse]; exact List.take_length
        rw [h1, h2, hrev] at hT; exact hT
      generalize putAll [] 64 oq = its at *
      clear hrev
      obtain ⟨v1, V1⟩ : ∃ v, Hid (atI its key = v) := ⟨_, hid rfl⟩
      obtain ⟨v2, V2⟩ : ∃ v, Hid (overI its (canonS lo hi b1 b2) = v) := ⟨_, hid rfl⟩
      obtain ⟨v3, V3⟩ : ∃ v, Hid ((its.length : Int) = v) := ⟨_, hid rfl⟩
      have h1 := hT.fst
      have h2 := hT.snd
      go_wp2
      (refine wp_region_ext (by kernel_rfl) (by kernel_rfl) ?_; (repeat (go_big_quiet_step (first | (go_at_call 13; with_reducible exact Calls.ext_of (tab_at (T := T) (Tab1.below (Tab1.below h1 (by (repeat (first | with_reducible exact Below.refl _ _ | ((with_reducible refine Below.alloc1 ?_ ?_ _); (· first | omega | (simp; done) | (simp; omega))) | (with_reducible refine Below.drew ?_) | (with_reducible refine below_drewN' ?_ _) | ((with_reducible refine Below.setCell1 ?_ ?_ _); (· first | omega | (simp; done) | (simp; omega))) | ((with_reducible refine Below.after (by assumption) ?_ ?_); (· first | omega | (simp; done) | (simp; omega))))))) (Ext.b _)) key v1 hkey V1)) | (go_at_call 13; with_reducible exact Calls.ext_of (tab_at (T := T2) (Tab1.below (Tab1.below h2 (by (repeat (first | with_reducible exact Below.refl _ _ | ((with_reducible refine Below.alloc1 ?_ ?_ _); (· first | omega | (simp; done) | (simp; omega))) | (with_reducible refine Below.drew ?_) | (with_reducible refine below_drewN' ?_ _) | ((with_reducible refine Below.setCell1 ?_ ?_ _); (· first | omega | (simp; done) | (simp; omega))) | ((with_reducible refine Below.after (by assumption) ?_ ?_); (· first | omega | (simp; done) | (simp; omega))))))) (Ext.b _)) key v1 hkey V1)) | (go_at_call 14; with_reducible exact Calls.ext_of (tab_over (T := T) (Tab1.below (Tab1.below h1 (by (repeat (first | with_reducible exact Below.refl _ _ | ((with_reducible refine Below.alloc1 ?_ ?_ _); (· first | omega | (simp; done) | (simp; omega))) | (with_reducible refine Below.drew ?_) | (with_reducible refine below_drewN' ?_ _) | ((with_reducible refine Below.setCell1 ?_ ?_ _); (· first | omega | (simp; done) | (simp; omega))) | ((with_reducible refine Below.after (by assumption) ?_ ?_); (· first | omega | (simp; done) | (simp; omega))))))) (Ext.b _)) lo hi b1 b2 v2 hl hh V2)) | (go_at_call 14; with_reducible exact Calls.ext_of (tab_over (T := T2) (Tab1.below (Tab1.below h2 (by (repeat (first | with_reducible exact Below.refl _ _ | ((with_reducible refine Below.alloc1 ?_ ?_ _); (· first | omega | (simp; done) | (simp; omega))) | (with_reducible refine Below.drew ?_) | (with_reducible refine below_drewN' ?_ _) | ((with_reducible refine Below.setCell1 ?_ ?_ _); (· first | omega | (simp; done) | (simp; omega))) | ((with_reducible refine Below.after (by assumption) ?_ ?_); (· first | omega | (simp; done) | (simp; omega))))))) (Ext.b _)) lo hi b1 b2 v2 hl hh V2)) | (go_at_call 16; with_reducible exact Calls.ext_of (tab_len (T := T) (Tab1.below (Tab1.below h1 (by (repeat (first | with_reducible exact Below.refl _ _ | ((with_reducible refine Below.alloc1 ?_ ?_ _); (· first | omega | (simp; done) | (simp; omega))) | (with_reducible refine Below.drew ?_) | (with_reducible refine below_drewN' ?_ _) | ((with_reducible refine Below.setCell1 ?_ ?_ _); (· first | omega | (simp; done) | (simp; omega))) | ((with_reducible refine Below.after (by assumption) ?_ ?_); (· first | omega | (simp; done) | (simp; omega))))))) (Ext.b _)) v3 V3)) | (go_at_call 16; with_reducible exact Calls.ext_of (tab_len (T := T2) (Tab1.below (Tab1.below h2 (by (repeat (first | with_reducible exact Below.refl _ _ | ((with_reducible refine Below.alloc1 ?_ ?_ _); (· first | omega | (simp; done) | (simp; omega))) | (with_reducible refine Below.drew ?_) | (with_reducible refine below_drewN' ?_ _) | ((with_reducible refine Below.setCell1 ?_ ?_ _); (· first | omega | (simp; done) | (simp; omega))) | ((with_reducible refine Below.after (by assumption) ?_ ?_); (· first | omega | (simp; done) | (simp; omega))))))) (Ext.b _)) v3 V3))))); refine wpQuiet_nil ?_; rintro w4 ⟨x4, hx4⟩; have hb4 := x4.b; rw [← hx4] at hb4; clear hx4 x4; obtain ⟨hc4, hf4⟩ := bcell hb4; (try simp only [World.heap_drewN, World.cell?_drewN, World.frozen?_drewN] at hc4 hf4); have hz4 := hb4.size; (try simp at hz4); (try have hy4_0 : w.heap.size < w4.heap.size := by omega); (try have hy4_1 : w.heap.size + 1 < w4.heap.size := by omega); (try have hy4_2 : w.heap.size + 2 < w4.heap.size := by omega); (try have hy4_3 : w.heap.size + 3 < w4.heap.size := by omega); (try have hx4_0 : w.heap.size ≤ w4.heap.size := by omega); (try have hx4_1 : w.heap.size + 1 ≤ w4.heap.size := by omega); (try have hx4_2 : w.heap.size + 2 ≤ w4.heap.size := by omega); (try have hu4_wr_0 : wr.heap.size < w4.heap.size := by omega); (try have hu4_wr_1 : wr.heap.size + 1 < w4.heap.size := by omega))
      go_wp2
      go_ret
      have hfin := hT.b
      exact ⟨rfl, by (repeat (first | with_reducible exact Below.refl _ _ | ((with_reducible refine Below.alloc1 ?_ ?_ _); (· first | omega | (simp; done) | (simp; omega))) | (with_reducible refine Below.drew ?_) | (with_reducible refine below_drewN' ?_ _) | ((with_reducible refine Below.setCell1 ?_ ?_ _); (· first | omega | (simp; done) | (simp; omega))) | ((with_reducible refine Below.after (by assumption) ?_ ?_); (· first | omega | (simp; done) | (simp; omega)))))⟩

theorem versGrows_walk (a : Option Addr) (c : Nat) (ops : List OpV) (key lo hi : Nat) (b1 b2 : Bool) (w : World) (ho : OAt w a ops) (hca : ops.length ≤ c ∧ c ≤ 9223372036854775807) (hkey : key < 2 ^ 64) (hl : lo < 2 ^ 64) (hh : hi < 2 ^ 64) :
    Calls Try.prog 3 #[.slice a ops.length c, .float .f64 key, .agg #[.float .f64 lo, .float .f64 hi, .bool b1, .bool b2]] w (Ret (.bool true) w) := by
  by_cases h : ops.length ≤ 60
  · exact versGrows_short a c ops key lo hi b1 b2 w ho hca h hkey hl hh
  · exact versGrows_cut a c ops key lo hi b1 b2 w ho hca (by omega) hkey hl hh
end Go.Proofs.Ytnlaepogkepnhaa
