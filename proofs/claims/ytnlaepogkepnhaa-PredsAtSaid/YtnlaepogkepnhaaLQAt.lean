/- The walk of PredsAt. -/
import Derived.Test.YtnlaepogkepnhaaQH
namespace Go.Proofs.Ytnlaepogkepnhaa.Q
set_option linter.unusedVariables false
open Go.RowKit Fl

set_option maxHeartbeats 1000000 in
set_option maxRecDepth 100000 in
theorem predsAt_short (a : Option Addr) (c : Nat) (ops : List OpV) (key : Nat) (w : World) (ho : OAt w a ops) (hca : ops.length ≤ c ∧ c ≤ 9223372036854775807) (hlen : ops.length ≤ 60) (hkey : key < 2 ^ 64) :
    Calls Try.prog 7 #[.slice a ops.length c, .float .f64 key] w (Ret (.bool true) w) := by
  obtain ⟨n, hn⟩ : ∃ n, ops.length = n := ⟨_, rfl⟩
  have hmax : n ≤ 9223372036854775807 := by have := ho.len; unfold maxLen at this; omega
  have HO := hid ho
  rw [hn] at hlen hca ⊢
  obtain ⟨oq, hoq⟩ : ∃ oq, oq = ops := ⟨_, rfl⟩
  rw [← hoq] at hn
  have HQ := hid hoq
  clear hoq
  have HN : Hid (oq.length = n) := hid (by exact hn)
  have hrev := putAll_rev 64 oq (by rw [HN.out]; omega)
  clear ho hn
  go_enter Try.func7, Try.ntmps7
  go_wp2_with fail
  with_reducible refine (tab_new (Below.refl _ _) 64 (by omega) (by omega)).mono ?_
  rintro e w1 ⟨T, rfl, hT0⟩
  have hT1 : Tab1 w w1 T 64 [] := hT0
  clear hT0
  go_wp2_with fail
  with_reducible refine (tab2_new hT1).mono ?_
  rintro e w2 ⟨T2, rfl, hT2⟩
  clear hT1
  go_wp2_with (go_at_call 31; (with_reducible refine (alive_any _).mono ?_); rintro e w3 ⟨rfl, hb3⟩; obtain ⟨hc3, hf3⟩ := bcell hb3; (try simp only [World.heap_drewN, World.cell?_drewN, World.frozen?_drewN] at hc3 hf3); have hz3 := hb3.size; (try simp at hz3); (try have hy3_0 : w.heap.size < w3.heap.size := by omega); (try have hy3_1 : w.heap.size + 1 < w3.heap.size := by omega); (try have hy3_2 : w.heap.size + 2 < w3.heap.size := by omega); (try have hy3_3 : w.heap.size + 3 < w3.heap.size := by omega); (try have hx3_0 : w.heap.size ≤ w3.heap.size := by omega); (try have hx3_1 : w.heap.size + 1 ≤ w3.heap.size := by omega); (try have hx3_2 : w.heap.size + 2 ≤ w3.heap.size := by omega))
  have hT3 : Tab2 w w3 T T2 64 [] [] := hT2.below hb3
  clear hT2 hb3 hc3 hf3 hlen
  go_loopw [34] (fun iv wr => ∃ i : Nat, i ≤ n ∧ iv = .int .i64 i ∧ Tab2 w wr T T2 64 (putAll [] 64 (oq.take i)) (putAll [] 64 (oq.reverse.take i))) (fun iv _ => n - (intOf iv).toNat)
  case atStart => exact ⟨0, Nat.zero_le _, rfl, hT3⟩
  case round =>
    obtain ⟨i, hin, rfl, hT⟩ := hrel
    clear hT3
    have hs6 := hT.b.size
    by_cases hlt : i < n
    · have hlt' : (i : Int) < (n : Int) := by omega
      have hil : i < oq.length := by rw [HN.out]; exact hlt
      have hjl : oq.length - 1 - i < oq.length := by omega
      have hnm : oq.length - 1 - i = n - 1 - i := by rw [HN.out]
      rcases HO.out.row with h0 | ⟨b, o, hbo, hb, hcs⟩
      · exfalso; rw [HQ.out, h0] at hil; simp at hil
      cases hbo
      have hcs' : ∀ (t : Nat) (W : World), t < oq.length → Below w.heap.size w W → W.cell? ⟨b, o + t * 6, none⟩ = some (.int .i64 (oq[t]?.getD default).kind) ∧ W.cell? ⟨b, o + t * 6 + 1, none⟩ = some (.float .f64 (oq[t]?.getD default).lo) ∧ W.cell? ⟨b, o + t * 6 + 2, none⟩ = some (.float .f64 (oq[t]?.getD default).hi) ∧ W.cell? ⟨b, o + t * 6 + 3, none⟩ = some (.bool (oq[t]?.getD default).a) ∧ W.cell? ⟨b, o + t * 6 + 4, none⟩ = some (.bool (oq[t]?.getD default).b) ∧ W.cell? ⟨b, o + t * 6 + 5, none⟩ = some (.int .i64 (oq[t]?.getD default).n) ∧ ((oq[t]?.getD default).lo < 2 ^ 64 ∧ (oq[t]?.getD default).hi < 2 ^ 64) := fun t W ht hbW => by
        have ht' : t < ops.length := by rw [← HQ.out]; exact ht
        have e : oq[t]? = ops[t]? := by rw [HQ.out]
        rw [e]
        have k := fun j => (hbW.cell (p := ⟨b, j, none⟩) hb)
        have q := hcs t ht'
        exact ⟨(k _).trans q.1, (k _).trans q.2.1, (k _).trans q.2.2.1, (k _).trans q.2.2.2.1, (k _).trans q.2.2.2.2.1, (k _).trans q.2.2.2.2.2, HO.out.lt t ht'⟩
      obtain ⟨d0, d1, d2, d3, d4, d5, hkx⟩ := hcs' i wr hil hT.b
      have hq := fun W => hcs' (n - 1 - i) W (by omega)
      clear hcs hcs'
      have hx := hid (op_some hil)
      have hy : oq.reverse[i]? = some (oq[oq.length - 1 - i]?.getD default) := by
        rw [List.getElem?_reverse hil]; exact op_some hjl
      rw [hnm] at hy hjl
      have hy := hid hy
      have hsub : (n : Int) - 1 - (i : Int) = ((n - 1 - i : Nat) : Int) := by omega
      have hsub2 : ((n - 1 - i : Nat) : Int) < (n : Int) := by omega
      have hsub3 : (0 : Int) ≤ ((n - 1 - i : Nat) : Int) := by omega
      have hr1 := putAll_rises List.Pairwise.nil 64 (oq.take i)
      have hp1 := putAll_pos pos_nil 64 (oq.take i)
      generalize oq[i]?.getD default = x at *
      generalize oq[n - 1 - i]?.getD default = y at *
      have HX := hid (putAll_snoc [] 64 hx.out)
      have HY := hid (putAll_snoc [] 64 hy.out)
      generalize putAll [] 64 (oq.take i) = i1 at *
      generalize putAll [] 64 (oq.reverse.take i) = i2 at *
      have hd := putI_dom hr1 hp1 64 x.rg x.ok x.n
      have m1 := dom_atK hd key
      have m3 := fun h0 hb => putI_at hr1 hp1 64 x.rg x.ok x.n h0 (key := key) hb
      obtain ⟨c0, i1', hput⟩ : ∃ c0 i1', putI i1 64 x.rg x.n = (c0, i1') := ⟨_, _, rfl⟩
      obtain ⟨c2, i2', hput2⟩ : ∃ c0 i1', putI i2 64 y.rg y.n = (c0, i1') := ⟨_, _, rfl⟩
      rw [hput] at m1 m3 hd HX
      rw [hput2] at HY
      have Hput : Hid (putI i1 64 (canonS x.lo x.hi x.a x.b) x.n = (c0, i1')) := hid hput
      have Hput2 : Hid (putI i2 64 (canonS y.lo y.hi y.a y.b) y.n = (c2, i2')) := hid hput2
      simp only at m1 m3
      obtain ⟨v1, V1⟩ : ∃ v, Hid (atI i1 key = v) := ⟨_, hid rfl⟩
      obtain ⟨v3, V3⟩ : ∃ v, Hid (atI i1' key = v) := ⟨_, hid rfl⟩
      obtain ⟨hv, HV⟩ : ∃ v, Hid (hasB (canonS x.lo x.hi x.a x.b) key = v) := ⟨_, hid rfl⟩
      rw [V1.out, V3.out] at m1
      have hvo : hasB x.rg key = hv := HV.out
      rw [V3.out, hvo] at m3
      clear hvo
      clear hput hput2 hd hr1 hp1 hil hjl hrev
      go_wp2_with (go_at_call 32; (with_reducible refine (tab_at (Tab1.below hT.fst (by (repeat (first | with_reducible exact Below.refl _ _ | ((with_reducible refine Below.alloc1 ?_ ?_ _); (· first | omega | (simp; done) | (simp; omega))) | (with_reducible refine Below.drew ?_) | (with_reducible refine below_drewN' ?_ _) | ((with_reducible refine Below.setCell1 ?_ ?_ _); (· first | omega | (simp; done) | (simp; omega))) | ((with_reducible refine Below.after (by assumption) ?_ ?_); (· first | omega | (simp; done) | (simp; omega))))))) key v1 hkey V1).mono ?_); rintro e w4 ⟨rfl, hb4⟩; obtain ⟨hc4, hf4⟩ := bcell hb4; (try simp only [World.heap_drewN, World.cell?_drewN, World.frozen?_drewN] at hc4 hf4); have hz4 := hb4.size; (try simp at hz4); (try have hy4_0 : w.heap.size < w4.heap.size := by omega); (try have hy4_1 : w.heap.size + 1 < w4.heap.size := by omega); (try have hy4_2 : w.heap.size + 2 < w4.heap.size := by omega); (try have hy4_3 : w.heap.size + 3 < w4.heap.size := by omega); (try have hx4_0 : w.heap.size ≤ w4.heap.size := by omega); (try have hx4_1 : w.heap.size + 1 ≤ w4.heap.size := by omega); (try have hx4_2 : w.heap.size + 2 ≤ w4.heap.size := by omega))
      have hb4' : Below wr.heap.size wr w4 := by (repeat (first | with_reducible exact Below.refl _ _ | ((with_reducible refine Below.alloc1 ?_ ?_ _); (· first | omega | (simp; done) | (simp; omega))) | (with_reducible refine Below.drew ?_) | (with_reducible refine below_drewN' ?_ _) | ((with_reducible refine Below.setCell1 ?_ ?_ _); (· first | omega | (simp; done) | (simp; omega))) | ((with_reducible refine Below.after (by assumption) ?_ ?_); (· first | omega | (simp; done) | (simp; omega)))))
      with_reducible refine (tab2_put_f (i' := i1') hT hb4' x.lo x.hi x.a x.b x.n c0 hkx.1 hkx.2 Hput).mono ?_
      rintro e w5 ⟨rfl, hT5, hz5, hk5⟩
      have q1 : w5.cell? ⟨wr.heap.size, 1, none⟩ = some (.float .f64 x.lo) := by
        rw [hk5 _ (Nat.le_refl _) (by assumption)]; simp [go_sem, hc4]
      have q2 : w5.cell? ⟨wr.heap.size, 2, none⟩ = some (.float .f64 x.hi) := by
        rw [hk5 _ (Nat.le_refl _) (by assumption)]; simp [go_sem, hc4]
      have q3 : w5.cell? ⟨wr.heap.size, 3, none⟩ = some (.bool x.a) := by
        rw [hk5 _ (Nat.le_refl _) (by assumption)]; simp [go_sem, hc4]
      have q4 : w5.cell? ⟨wr.heap.size, 4, none⟩ = some (.bool x.b) := by
        rw [hk5 _ (Nat.le_refl _) (by assumption)]; simp [go_sem, hc4]
      have q5 : w5.cell? ⟨wr.heap.size, 5, none⟩ = some (.int .i64 x.n) := by
        rw [hk5 _ (Nat.le_refl _) (by assumption)]; simp [go_sem, hc4]
      have hs5 := hT5.b.size
      have hb5' : b < w5.heap.size := by omega
      obtain ⟨p0, p1, p2, p3, p4, p5, hky⟩ := hq w5 hT5.b
      clear hq
      have hy5' : wr.heap.size < w5.heap.size := by have := hb4'.size; omega
      have hg1 : decide (v3 < v1) = false := by simp; omega
      by_cases hc0 : c0 = 0
      · subst hc0
        cases hv
        · clear m1 m3
          go_wp2_with fail
          (refine wp_region_ext (by kernel_rfl) (by kernel_rfl) ?_; (repeat (go_big_quiet_step (first | (go_at_call 32; with_reducible exact Calls.ext_of (tab_at (Tab1.below (Tab1.below hT5.fst (by (repeat (first | with_reducible exact Below.refl _ _ | ((with_reducible refine Below.alloc1 ?_ ?_ _); (· first | omega | (simp; done) | (simp; omega))) | (with_reducible refine Below.drew ?_) | (with_reducible refine below_drewN' ?_ _) | ((with_reducible refine Below.setCell1 ?_ ?_ _); (· first | omega | (simp; done) | (simp; omega))) | ((with_reducible refine Below.after (by assumption) ?_ ?_); (· first | omega | (simp; done) | (simp; omega))))))) (Ext.b _)) key v3 hkey V3)) | (go_at_call 29; with_reducible exact Calls.ext_of (has_is x.lo x.hi x.a x.b key false _ hkx.1 hkx.2 HV))))); refine wpQuiet_nil ?_; rintro w6 ⟨x6, hx6⟩; have hb6 := x6.b; rw [← hx6] at hb6; clear hx6 x6; obtain ⟨hc6, hf6⟩ := bcell hb6; (try simp only [World.heap_drewN, World.cell?_drewN, World.frozen?_drewN] at hc6 hf6); have hz6 := hb6.size; (try simp at hz6); (try have hy6_0 : w.heap.size < w6.heap.size := by omega); (try have hy6_1 : w.heap.size + 1 < w6.heap.size := by omega); (try have hy6_2 : w.heap.size + 2 < w6.heap.size := by omega); (try have hy6_3 : w.heap.size + 3 < w6.heap.size := by omega); (try have hx6_0 : w.heap.size ≤ w6.heap.size := by omega); (try have hx6_1 : w.heap.size + 1 ≤ w6.heap.size := by omega); (try have hx6_2 : w.heap.size + 2 ≤ w6.heap.size := by omega); (try have hu6_wr_0 : wr.heap.size < w6.heap.size := by omega); (try have hu6_wr_1 : wr.heap.size + 1 < w6.heap.size := by omega); (try have hu6_w5_0 : w5.heap.size < w6.heap.size := by omega); (try have hu6_w5_1 : w5.heap.size + 1 < w6.heap.size := by omega))
          go_wp2_with fail
          with_reducible refine (tab2_put2 (i' := i2') (Tab2.below hT5 (by (repeat (first | with_reducible exact Below.refl _ _ | ((with_reducible refine Below.alloc1 ?_ ?_ _); (· first | omega | (simp; done) | (simp; omega))) | (with_reducible refine Below.drew ?_) | (with_reducible refine below_drewN' ?_ _) | ((with_reducible refine Below.setCell1 ?_ ?_ _); (· first | omega | (simp; done) | (simp; omega))) | ((with_reducible refine Below.after (by assumption) ?_ ?_); (· first | omega | (simp; done) | (simp; omega))))))) y.lo y.hi y.a y.b y.n c2 hky.1 hky.2 Hput2).mono ?_
          rintro e w7 ⟨rfl, hT7⟩
          go_wp2
          go_roundw
          case rel => exact ⟨i + 1, by omega, by go_num, by rw [HX.out, HY.out]; exact hT7⟩
          case measure => simp [intOf]; omega
        · have hg3 : decide (v3 < x.n) = false := by have := m3 rfl rfl; simp; omega
          clear m1 m3
          go_wp2_with fail
          (refine wp_region_ext (by kernel_rfl) (by kernel_rfl) ?_; (repeat (go_big_quiet_step (first | (go_at_call 32; with_reducible exact Calls.ext_of (tab_at (Tab1.below (Tab1.below hT5.fst (by (repeat (first | with_reducible exact Below.refl _ _ | ((with_reducible refine Below.alloc1 ?_ ?_ _); (· first | omega | (simp; done) | (simp; omega))) | (with_reducible refine Below.drew ?_) | (with_reducible refine below_drewN' ?_ _) | ((with_reducible refine Below.setCell1 ?_ ?_ _); (· first | omega | (simp; done) | (simp; omega))) | ((with_reducible refine Below.after (by assumption) ?_ ?_); (· first | omega | (simp; done) | (simp; omega))))))) (Ext.b _)) key v3 hkey V3)) | (go_at_call 29; with_reducible exact Calls.ext_of (has_is x.lo x.hi x.a x.b key true _ hkx.1 hkx.2 HV))))); refine wpQuiet_nil ?_; rintro w6 ⟨x6, hx6⟩; have hb6 := x6.b; rw [← hx6] at hb6; clear hx6 x6; obtain ⟨hc6, hf6⟩ := bcell hb6; (try simp only [World.heap_drewN, World.cell?_drewN, World.frozen?_drewN] at hc6 hf6); have hz6 := hb6.size; (try simp at hz6); (try have hy6_0 : w.heap.size < w6.heap.size := by omega); (try have hy6_1 : w.heap.size + 1 < w6.heap.size := by omega); (try have hy6_2 : w.heap.size + 2 < w6.heap.size := by omega); (try have hy6_3 : w.heap.size + 3 < w6.heap.size := by omega); (try have hx6_0 : w.heap.size ≤ w6.heap.size := by omega); (try have hx6_1 : w.heap.size + 1 ≤ w6.heap.size := by omega); (try have hx6_2 : w.heap.size + 2 ≤ w6.heap.size := by omega); (try have hu6_wr_0 : wr.heap.size < w6.heap.size := by omega); (try have hu6_wr_1 : wr.heap.size + 1 < w6.heap.size := by omega); (try have hu6_w5_0 : w5.heap.size < w6.heap.size := by omega); (try have hu6_w5_1 : w5.heap.size + 1 < w6.heap.size := by omega))
          go_wp2_with fail
          with_reducible refine (tab2_put2 (i' := i2') (Tab2.below hT5 (by (repeat (first | with_reducible exact Below.refl _ _ | ((with_reducible refine Below.alloc1 ?_ ?_ _); (· first | omega | (simp; done) | (simp; omega))) | (with_reducible refine Below.drew ?_) | (with_reducible refine below_drewN' ?_ _) | ((with_reducible refine Below.setCell1 ?_ ?_ _); (· first | omega | (simp; done) | (simp; omega))) | ((with_reducible refine Below.after (by assumption) ?_ ?_); (· first | omega | (simp; done) | (simp; omega))))))) y.lo y.hi y.a y.b y.n c2 hky.1 hky.2 Hput2).mono ?_
          rintro e w7 ⟨rfl, hT7⟩
          go_wp2
          go_roundw
          case rel => exact ⟨i + 1, by omega, by go_num, by rw [HX.out, HY.out]; exact hT7⟩
          case measure => simp [intOf]; omega
      · have hc1 : (c0 == 0) = false := by simpa using hc0
        clear m1 m3
        go_wp2_with fail
        (refine wp_region_ext (by kernel_rfl) (by kernel_rfl) ?_; (repeat (go_big_quiet_step (first | (go_at_call 32; with_reducible exact Calls.ext_of (tab_at (Tab1.below (Tab1.below hT5.fst (by (repeat (first | with_reducible exact Below.refl _ _ | ((with_reducible refine Below.alloc1 ?_ ?_ _); (· first | omega | (simp; done) | (simp; omega))) | (with_reducible refine Below.drew ?_) | (with_reducible refine below_drewN' ?_ _) | ((with_reducible refine Below.setCell1 ?_ ?_ _); (· first | omega | (simp; done) | (simp; omega))) | ((with_reducible refine Below.after (by assumption) ?_ ?_); (· first | omega | (simp; done) | (simp; omega))))))) (Ext.b _)) key v3 hkey V3))))); refine wpQuiet_nil ?_; rintro w6 ⟨x6, hx6⟩; have hb6 := x6.b; rw [← hx6] at hb6; clear hx6 x6; obtain ⟨hc6, hf6⟩ := bcell hb6; (try simp only [World.heap_drewN, World.cell?_drewN, World.frozen?_drewN] at hc6 hf6); have hz6 := hb6.size; (try simp at hz6); (try have hy6_0 : w.heap.size < w6.heap.size := by omega); (try have hy6_1 : w.heap.size + 1 < w6.heap.size := by omega); (try have hy6_2 : w.heap.size + 2 < w6.heap.size := by omega); (try have hy6_3 : w.heap.size + 3 < w6.heap.size := by omega); (try have hx6_0 : w.heap.size ≤ w6.heap.size := by omega); (try have hx6_1 : w.heap.size + 1 ≤ w6.heap.size := by omega); (try have hx6_2 : w.heap.size + 2 ≤ w6.heap.size := by omega); (try have hu6_wr_0 : wr.heap.size < w6.heap.size := by omega); (try have hu6_wr_1 : wr.heap.size + 1 < w6.heap.size := by omega); (try have hu6_w5_0 : w5.heap.size < w6.heap.size := by omega); (try have hu6_w5_1 : w5.heap.size + 1 < w6.heap.size := by omega))
        go_wp2_with fail
        with_reducible refine (tab2_put2 (i' := i2') (Tab2.below hT5 (by (repeat (first | with_reducible exact Below.refl _ _ | ((with_reducible refine Below.alloc1 ?_ ?_ _); (· first | omega | (simp; done) | (simp; omega))) | (with_reducible refine Below.drew ?_) | (with_reducible refine below_drewN' ?_ _) | ((with_reducible refine Below.setCell1 ?_ ?_ _); (· first | omega | (simp; done) | (simp; omega))) | ((with_reducible refine Below.after (by assumption) ?_ ?_); (· first | omega | (simp; done) | (simp; omega))))))) y.lo y.hi y.a y.b y.n c2 hky.1 hky.2 Hput2).mono ?_
        rintro e w7 ⟨rfl, hT7⟩
        go_wp2
        go_roundw
        case rel => exact ⟨i + 1, by omega, by go_num, by rw [HX.out, HY.out]; exact hT7⟩
        case measure => simp [intOf]; omega
    · obtain rfl : i = n := by omega
      have hT : Tab2 w wr T T2 64 (putAll [] 64 oq) (putAll [] 64 oq) := by
        have h1 : oq.take i = oq := by rw [← HN.out]; exact List.take_length
        have h2 : oq.reverse.take i = oq.reverse := by rw [← HN.out, ← List.length_reverse]; exact List.take_length
        rw [h1, h2, hrev] at hT; exact hT
      generalize putAll [] 64 oq = its at *
      clear hrev
      obtain ⟨v1, V1⟩ : ∃ v, Hid (atI its key = v) := ⟨_, hid rfl⟩
      have hl64 : its.length ≤ 64 := by have := hT.le1; omega
      obtain ⟨N, hN⟩ : ∃ N, its.length = N := ⟨_, rfl⟩
      have HNN := hid hN
      have V3 : Hid ((its.length : Int) = (N : Int)) := hid (by rw [hN])
      have HS := hid fun t x (hx : its[t]? = some x) => at_step hx (key := key)
      have HF : Hid (atI (its.take N) key = v1) := hid (by rw [← hN, List.take_length]; exact V1.out)
      rw [hN] at hl64
      go_wp2_with (go_at_call 34; (with_reducible refine (tab_all hT.fst).mono ?_); rintro e w4 ⟨a4, c4, rfl, hr4, hb4⟩)
      have HA := hid (fun h0 => own_at hr4 rfl h0)
      rw [hN] at HA
      have hT4 := hT.below hb4
      clear hr4 hT hN
      go_loopw [89, 12] (fun iv nv w6 => ∃ k : Nat, k ≤ N ∧ iv = .int .i64 k ∧ nv = .int .i64 (atI (its.take k) key) ∧ Below w4.heap.size w4 w6) (fun iv _ _ => N - (intOf iv).toNat)
      case atStart => exact ⟨0, Nat.zero_le _, rfl, rfl, by (repeat (first | with_reducible exact Below.refl _ _ | ((with_reducible refine Below.alloc1 ?_ ?_ _); (· first | omega | (simp; done) | (simp; omega))) | (with_reducible refine Below.drew ?_) | (with_reducible refine below_drewN' ?_ _) | ((with_reducible refine Below.setCell1 ?_ ?_ _); (· first | omega | (simp; done) | (simp; omega))) | ((with_reducible refine Below.after (by assumption) ?_ ?_); (· first | omega | (simp; done) | (simp; omega)))))⟩
      case round =>
        obtain ⟨k, hk, rfl, rfl, hb6⟩ := hrel
        have hT6 := hT4.below hb6
        have hz6 := hb6.size
        by_cases hltk : k < N
        · have hltk' : (k : Int) < (N : Int) := by omega
          obtain ⟨g, rfl, hg, hcs⟩ := HA.out (by omega)
          have hkl : k < its.length := by rw [HNN.out]; exact hltk
          obtain ⟨d0, d1, d2, d3, d4⟩ := hcs k hltk
          have d0 := (hb6.cell (p := ⟨g, _, none⟩) hg).trans d0
          have d1 := (hb6.cell (p := ⟨g, _, none⟩) hg).trans d1
          have d2 := (hb6.cell (p := ⟨g, _, none⟩) hg).trans d2
          have d3 := (hb6.cell (p := ⟨g, _, none⟩) hg).trans d3
          have d4 := (hb6.cell (p := ⟨g, _, none⟩) hg).trans d4
          have hgw : g < wr.heap.size := by omega
          have hx := it_some hkl
          generalize its[k]?.getD default = x at *
          have hv := HS.out k x hx
          clear hcs hx hkl
          generalize hcur : atI (its.take k) key = cur at *
          cases hh : hasB x.k.rg key
          · rw [if_neg (by rw [hh]; simp)] at hv
            have hv' := hid hv
            have hhas := fun W => has_is x.k.lo.bits x.k.hi.bits false false key false W (Key.bits_lt _) (Key.bits_lt _) (hid (by rw [canonS_canon _ _ x.k.le]; exact hh))
            clear hv hh
            go_wp2_with (go_at_call 29; (with_reducible refine (hhas _).mono ?_); rintro e w7 ⟨rfl, hb7⟩; obtain ⟨hc7, hf7⟩ := bcell hb7; (try simp only [World.heap_drewN, World.cell?_drewN, World.frozen?_drewN] at hc7 hf7); have hz7 := hb7.size; (try simp at hz7); (try have hy7_0 : w.heap.size < w7.heap.size := by omega); (try have hy7_1 : w.heap.size + 1 < w7.heap.size := by omega); (try have hy7_2 : w.heap.size + 2 < w7.heap.size := by omega); (try have hy7_3 : w.heap.size + 3 < w7.heap.size := by omega); (try have hx7_0 : w.heap.size ≤ w7.heap.size := by omega); (try have hx7_1 : w.heap.size + 1 ≤ w7.heap.size := by omega); (try have hx7_2 : w.heap.size + 2 ≤ w7.heap.size := by omega))
            go_roundw
            case rel => exact ⟨k + 1, by omega, by go_num, by rw [hv'.out], by (repeat (first | with_reducible exact Below.refl _ _ | ((with_reducible refine Below.alloc1 ?_ ?_ _); (· first | omega | (simp; done) | (simp; omega))) | (with_reducible refine Below.drew ?_) | (with_reducible refine below_drewN' ?_ _) | ((with_reducible refine Below.setCell1 ?_ ?_ _); (· first | omega | (simp; done) | (simp; omega))) | ((with_reducible refine Below.after (by assumption) ?_ ?_); (· first | omega | (simp; done) | (simp; omega)))))⟩
            case measure => simp [intOf]; omega
          · rw [if_pos hh] at hv
            have hv' := hid hv
            have hhas := fun W => has_is x.k.lo.bits x.k.hi.bits false false key true W (Key.bits_lt _) (Key.bits_lt _) (hid (by rw [canonS_canon _ _ x.k.le]; exact hh))
            clear hv hh
            go_wp2_with (go_at_call 29; (with_reducible refine (hhas _).mono ?_); rintro e w7 ⟨rfl, hb7⟩; obtain ⟨hc7, hf7⟩ := bcell hb7; (try simp only [World.heap_drewN, World.cell?_drewN, World.frozen?_drewN] at hc7 hf7); have hz7 := hb7.size; (try simp at hz7); (try have hy7_0 : w.heap.size < w7.heap.size := by omega); (try have hy7_1 : w.heap.size + 1 < w7.heap.size := by omega); (try have hy7_2 : w.heap.size + 2 < w7.heap.size := by omega); (try have hy7_3 : w.heap.size + 3 < w7.heap.size := by omega); (try have hx7_0 : w.heap.size ≤ w7.heap.size := by omega); (try have hx7_1 : w.heap.size + 1 ≤ w7.heap.size := by omega); (try have hx7_2 : w.heap.size + 2 ≤ w7.heap.size := by omega))
            go_roundw
            case rel => exact ⟨k + 1, by omega, by go_num, by rw [hv'.out], by (repeat (first | with_reducible exact Below.refl _ _ | ((with_reducible refine Below.alloc1 ?_ ?_ _); (· first | omega | (simp; done) | (simp; omega))) | (with_reducible refine Below.drew ?_) | (with_reducible refine below_drewN' ?_ _) | ((with_reducible refine Below.setCell1 ?_ ?_ _); (· first | omega | (simp; done) | (simp; omega))) | ((with_reducible refine Below.after (by assumption) ?_ ?_); (· first | omega | (simp; done) | (simp; omega)))))⟩
            case measure => simp [intOf]; omega
        · obtain rfl : k = N := by omega
          rw [HF.out]
          have h1 := hT6.fst
          have h2 := hT6.snd
          go_wp2_with (first | (go_at_call 32; (with_reducible refine (tab_at (T := T) (Tab1.below h1 (by (repeat (first | with_reducible exact Below.refl _ _ | ((with_reducible refine Below.alloc1 ?_ ?_ _); (· first | omega | (simp; done) | (simp; omega))) | (with_reducible refine Below.drew ?_) | (with_reducible refine below_drewN' ?_ _) | ((with_reducible refine Below.setCell1 ?_ ?_ _); (· first | omega | (simp; done) | (simp; omega))) | ((with_reducible refine Below.after (by assumption) ?_ ?_); (· first | omega | (simp; done) | (simp; omega))))))) key v1 hkey V1).mono ?_); rintro e w8 ⟨rfl, hb8⟩; obtain ⟨hc8, hf8⟩ := bcell hb8; (try simp only [World.heap_drewN, World.cell?_drewN, World.frozen?_drewN] at hc8 hf8); have hz8 := hb8.size; (try simp at hz8); (try have hy8_0 : w.heap.size < w8.heap.size := by omega); (try have hy8_1 : w.heap.size + 1 < w8.heap.size := by omega); (try have hy8_2 : w.heap.size + 2 < w8.heap.size := by omega); (try have hy8_3 : w.heap.size + 3 < w8.heap.size := by omega); (try have hx8_0 : w.heap.size ≤ w8.heap.size := by omega); (try have hx8_1 : w.heap.size + 1 ≤ w8.heap.size := by omega); (try have hx8_2 : w.heap.size + 2 ≤ w8.heap.size := by omega)) | (go_at_call 32; (with_reducible refine (tab_at (T := T2) (Tab1.below h2 (by (repeat (first | with_reducible exact Below.refl _ _ | ((with_reducible refine Below.alloc1 ?_ ?_ _); (· first | omega | (simp; done) | (simp; omega))) | (with_reducible refine Below.drew ?_) | (with_reducible refine below_drewN' ?_ _) | ((with_reducible refine Below.setCell1 ?_ ?_ _); (· first | omega | (simp; done) | (simp; omega))) | ((with_reducible refine Below.after (by assumption) ?_ ?_); (· first | omega | (simp; done) | (simp; omega))))))) key v1 hkey V1).mono ?_); rintro e w9 ⟨rfl, hb9⟩; obtain ⟨hc9, hf9⟩ := bcell hb9; (try simp only [World.heap_drewN, World.cell?_drewN, World.frozen?_drewN] at hc9 hf9); have hz9 := hb9.size; (try simp at hz9); (try have hy9_0 : w.heap.size < w9.heap.size := by omega); (try have hy9_1 : w.heap.size + 1 < w9.heap.size := by omega); (try have hy9_2 : w.heap.size + 2 < w9.heap.size := by omega); (try have hy9_3 : w.heap.size + 3 < w9.heap.size := by omega); (try have hx9_0 : w.heap.size ≤ w9.heap.size := by omega); (try have hx9_1 : w.heap.size + 1 ≤ w9.heap.size := by omega); (try have hx9_2 : w.heap.size + 2 ≤ w9.heap.size := by omega)) | (go_at_call 35; (with_reducible refine (tab_len (T := T2) (Tab1.below h2 (by (repeat (first | with_reducible exact Below.refl _ _ | ((with_reducible refine Below.alloc1 ?_ ?_ _); (· first | omega | (simp; done) | (simp; omega))) | (with_reducible refine Below.drew ?_) | (with_reducible refine below_drewN' ?_ _) | ((with_reducible refine Below.setCell1 ?_ ?_ _); (· first | omega | (simp; done) | (simp; omega))) | ((with_reducible refine Below.after (by assumption) ?_ ?_); (· first | omega | (simp; done) | (simp; omega))))))) _ V3).mono ?_); rintro e w10 ⟨rfl, hb10⟩; obtain ⟨hc10, hf10⟩ := bcell hb10; (try simp only [World.heap_drewN, World.cell?_drewN, World.frozen?_drewN] at hc10 hf10); have hz10 := hb10.size; (try simp at hz10); (try have hy10_0 : w.heap.size < w10.heap.size := by omega); (try have hy10_1 : w.heap.size + 1 < w10.heap.size := by omega); (try have hy10_2 : w.heap.size + 2 < w10.heap.size := by omega); (try have hy10_3 : w.heap.size + 3 < w10.heap.size := by omega); (try have hx10_0 : w.heap.size ≤ w10.heap.size := by omega); (try have hx10_1 : w.heap.size + 1 ≤ w10.heap.size := by omega); (try have hx10_2 : w.heap.size + 2 ≤ w10.heap.size := by omega)) | (go_at_call 35; (with_reducible refine (tab_len (T := T) (Tab1.below h1 (by (repeat (first | with_reducible exact Below.refl _ _ | ((with_reducible refine Below.alloc1 ?_ ?_ _); (· first | omega | (simp; done) | (simp; omega))) | (with_reducible refine Below.drew ?_) | (with_reducible refine below_drewN' ?_ _) | ((with_reducible refine Below.setCell1 ?_ ?_ _); (· first | omega | (simp; done) | (simp; omega))) | ((with_reducible refine Below.after (by assumption) ?_ ?_); (· first | omega | (simp; done) | (simp; omega))))))) _ V3).mono ?_); rintro e w11 ⟨rfl, hb11⟩; obtain ⟨hc11, hf11⟩ := bcell hb11; (try simp only [World.heap_drewN, World.cell?_drewN, World.frozen?_drewN] at hc11 hf11); have hz11 := hb11.size; (try simp at hz11); (try have hy11_0 : w.heap.size < w11.heap.size := by omega); (try have hy11_1 : w.heap.size + 1 < w11.heap.size := by omega); (try have hy11_2 : w.heap.size + 2 < w11.heap.size := by omega); (try have hy11_3 : w.heap.size + 3 < w11.heap.size := by omega); (try have hx11_0 : w.heap.size ≤ w11.heap.size := by omega); (try have hx11_1 : w.heap.size + 1 ≤ w11.heap.size := by omega); (try have hx11_2 : w.heap.size + 2 ≤ w11.heap.size := by omega)))
          go_ret
          exact ⟨rfl, (show Tab1 w _ T 64 its from (by first | assumption | exact Tab1.below (by assumption) (by (repeat (first | with_reducible exact Below.refl _ _ | ((with_reducible refine Below.alloc1 ?_ ?_ _); (· first | omega | (simp; done) | (simp; omega))) | (with_reducible refine Below.drew ?_) | (with_reducible refine below_drewN' ?_ _) | ((with_reducible refine Below.setCell1 ?_ ?_ _); (· first | omega | (simp; done) | (simp; omega))) | ((with_reducible refine Below.after (by assumption) ?_ ?_); (· first | omega | (simp; done) | (simp; omega)))))))).b⟩

set_option maxHeartbeats 1000000 in
set_option maxRecDepth 100000 in
theorem predsAt_cut (a : Option Addr) (c : Nat) (ops : List OpV) (key : Nat) (w : World) (ho : OAt w a ops) (hca : ops.length ≤ c ∧ c ≤ 9223372036854775807) (hlen : 60 < ops.length) (hkey : key < 2 ^ 64) :
    Calls Try.prog 7 #[.slice a ops.length c, .float .f64 key] w (Ret (.bool true) w) := by
  obtain ⟨n, hn⟩ : ∃ n, ops.length = n := ⟨_, rfl⟩
  have hmax : n ≤ 9223372036854775807 := by have := ho.len; unfold maxLen at this; omega
  have HO := hid ho
  rw [hn] at hlen hca ⊢
  obtain ⟨oq, hoq⟩ : ∃ oq, oq = ops.take 60 := ⟨_, rfl⟩
  have HQ := hid hoq
  clear hoq
  have hlenI : (60 : Int) < (n : Int) := by omega
  rcases HO.out.row with h0 | ⟨b, o, rfl, _, _⟩
  · exfalso; rw [h0] at hn; simp at hn; omega
  have HN : Hid (oq.length = 60) := hid (by rw [HQ.out, List.length_take]; omega)
  have hrev := putAll_rev 64 oq (by rw [HN.out]; omega)
  clear ho hn
  go_enter Try.func7, Try.ntmps7
  go_wp2_with fail
  with_reducible refine (tab_new (Below.refl _ _) 64 (by omega) (by omega)).mono ?_
  rintro e w1 ⟨T, rfl, hT0⟩
  have hT1 : Tab1 w w1 T 64 [] := hT0
  clear hT0
  go_wp2_with fail
  with_reducible refine (tab2_new hT1).mono ?_
  rintro e w2 ⟨T2, rfl, hT2⟩
  clear hT1
  go_wp2_with (go_at_call 31; (with_reducible refine (alive_any _).mono ?_); rintro e w3 ⟨rfl, hb3⟩; obtain ⟨hc3, hf3⟩ := bcell hb3; (try simp only [World.heap_drewN, World.cell?_drewN, World.frozen?_drewN] at hc3 hf3); have hz3 := hb3.size; (try simp at hz3); (try have hy3_0 : w.heap.size < w3.heap.size := by omega); (try have hy3_1 : w.heap.size + 1 < w3.heap.size := by omega); (try have hy3_2 : w.heap.size + 2 < w3.heap.size := by omega); (try have hy3_3 : w.heap.size + 3 < w3.heap.size := by omega); (try have hx3_0 : w.heap.size ≤ w3.heap.size := by omega); (try have hx3_1 : w.heap.size + 1 ≤ w3.heap.size := by omega); (try have hx3_2 : w.heap.size + 2 ≤ w3.heap.size := by omega))
  have hT3 : Tab2 w w3 T T2 64 [] [] := hT2.below hb3
  clear hT2 hb3 hc3 hf3 hlen
  go_loopw [34] (fun iv wr => ∃ i : Nat, i ≤ 60 ∧ iv = .int .i64 i ∧ Tab2 w wr T T2 64 (putAll [] 64 (oq.take i)) (putAll [] 64 (oq.reverse.take i))) (fun iv _ => 60 - (intOf iv).toNat)
  case atStart => exact ⟨0, Nat.zero_le _, rfl, hT3⟩
  case round =>
    obtain ⟨i, hin, rfl, hT⟩ := hrel
    clear hT3
    have hs6 := hT.b.size
    by_cases hlt : i < 60
    · have hlt' : (i : Int) < (60 : Int) := by omega
      have hil : i < oq.length := by rw [HN.out]; exact hlt
      have hjl : oq.length - 1 - i < oq.length := by omega
      have hnm : oq.length - 1 - i = 59 - i := by rw [HN.out]
      rcases HO.out.row with h0 | ⟨b, o, hbo, hb, hcs⟩
      · exfalso; rw [HQ.out, h0] at hil; simp at hil
      cases hbo
      have hcs' : ∀ (t : Nat) (W : World), t < oq.length → Below w.heap.size w W → W.cell? ⟨b, o + t * 6, none⟩ = some (.int .i64 (oq[t]?.getD default).kind) ∧ W.cell? ⟨b, o + t * 6 + 1, none⟩ = some (.float .f64 (oq[t]?.getD default).lo) ∧ W.cell? ⟨b, o + t * 6 + 2, none⟩ = some (.float .f64 (oq[t]?.getD default).hi) ∧ W.cell? ⟨b, o + t * 6 + 3, none⟩ = some (.bool (oq[t]?.getD default).a) ∧ W.cell? ⟨b, o + t * 6 + 4, none⟩ = some (.bool (oq[t]?.getD default).b) ∧ W.cell? ⟨b, o + t * 6 + 5, none⟩ = some (.int .i64 (oq[t]?.getD default).n) ∧ ((oq[t]?.getD default).lo < 2 ^ 64 ∧ (oq[t]?.getD default).hi < 2 ^ 64) := fun t W ht hbW => by
        have ht' : t < ops.length := by rw [HQ.out, List.length_take] at ht; omega
        have e : oq[t]? = ops[t]? := by rw [HQ.out, List.length_take] at ht; rw [HQ.out, List.getElem?_take, if_pos (by omega)]
        rw [e]
        have k := fun j => (hbW.cell (p := ⟨b, j, none⟩) hb)
        have q := hcs t ht'
        exact ⟨(k _).trans q.1, (k _).trans q.2.1, (k _).trans q.2.2.1, (k _).trans q.2.2.2.1, (k _).trans q.2.2.2.2.1, (k _).trans q.2.2.2.2.2, HO.out.lt t ht'⟩
      obtain ⟨d0, d1, d2, d3, d4, d5, hkx⟩ := hcs' i wr hil hT.b
      have hq := fun W => hcs' (59 - i) W (by omega)
      clear hcs hcs'
      have hx := hid (op_some hil)
      have hy : oq.reverse[i]? = some (oq[oq.length - 1 - i]?.getD default) := by
        rw [List.getElem?_reverse hil]; exact op_some hjl
      rw [hnm] at hy hjl
      have hy := hid hy
      have hsub : (60 : Int) - 1 - (i : Int) = ((59 - i : Nat) : Int) := by omega
      have hsub2 : ((59 - i : Nat) : Int) < (60 : Int) := by omega
      have hsub3 : (0 : Int) ≤ ((59 - i : Nat) : Int) := by omega
      have hr1 := putAll_rises List.Pairwise.nil 64 (oq.take i)
      have hp1 := putAll_pos pos_nil 64 (oq.take i)
      generalize oq[i]?.getD default = x at *
      generalize oq[59 - i]?.getD default = y at *
      have HX := hid (putAll_snoc [] 64 hx.out)
      have HY := hid (putAll_snoc [] 64 hy.out)
      generalize putAll [] 64 (oq.take i) = i1 at *
      generalize putAll [] 64 (oq.reverse.take i) = i2 at *
      have hd := putI_dom hr1 hp1 64 x.rg x.ok x.n
      have m1 := dom_atK hd key
      have m3 := fun h0 hb => putI_at hr1 hp1 64 x.rg x.ok x.n h0 (key := key) hb
      obtain ⟨c0, i1', hput⟩ : ∃ c0 i1', putI i1 64 x.rg x.n = (c0, i1') := ⟨_, _, rfl⟩
      obtain ⟨c2, i2', hput2⟩ : ∃ c0 i1', putI i2 64 y.rg y.n = (c0, i1') := ⟨_, _, rfl⟩
      rw [hput] at m1 m3 hd HX
      rw [hput2] at HY
      have Hput : Hid (putI i1 64 (canonS x.lo x.hi x.a x.b) x.n = (c0, i1')) := hid hput
      have Hput2 : Hid (putI i2 64 (canonS y.lo y.hi y.a y.b) y.n = (c2, i2')) := hid hput2
      simp only at m1 m3
      obtain ⟨v1, V1⟩ : ∃ v, Hid (atI i1 key = v) := ⟨_, hid rfl⟩
      obtain ⟨v3, V3⟩ : ∃ v, Hid (atI i1' key = v) := ⟨_, hid rfl⟩
      obtain ⟨hv, HV⟩ : ∃ v, Hid (hasB (canonS x.lo x.hi x.a x.b) key = v) := ⟨_, hid rfl⟩
      rw [V1.out, V3.out] at m1
      have hvo : hasB x.rg key = hv := HV.out
      rw [V3.out, hvo] at m3
      clear hvo
      clear hput hput2 hd hr1 hp1 hil hjl hrev
      go_wp2_with (go_at_call 32; (with_reducible refine (tab_at (Tab1.below hT.fst (by (repeat (first | with_reducible exact Below.refl _ _ | ((with_reducible refine Below.alloc1 ?_ ?_ _); (· first | omega | (simp; done) | (simp; omega))) | (with_reducible refine Below.drew ?_) | (with_reducible refine below_drewN' ?_ _) | ((with_reducible refine Below.setCell1 ?_ ?_ _); (· first | omega | (simp; done) | (simp; omega))) | ((with_reducible refine Below.after (by assumption) ?_ ?_); (· first | omega | (simp; done) | (simp; omega))))))) key v1 hkey V1).mono ?_); rintro e w4 ⟨rfl, hb4⟩; obtain ⟨hc4, hf4⟩ := bcell hb4; (try simp only [World.heap_drewN, World.cell?_drewN, World.frozen?_drewN] at hc4 hf4); have hz4 := hb4.size; (try simp at hz4); (try have hy4_0 : w.heap.size < w4.heap.size := by omega); (try have hy4_1 : w.heap.size + 1 < w4.heap.size := by omega); (try have hy4_2 : w.heap.size + 2 < w4.heap.size := by omega); (try have hy4_3 : w.heap.size + 3 < w4.heap.size := by omega); (try have hx4_0 : w.heap.size ≤ w4.heap.size := by omega); (try have hx4_1 : w.heap.size + 1 ≤ w4.heap.size := by omega); (try have hx4_2 : w.heap.size + 2 ≤ w4.heap.size := by omega))
      have hb4' : Below wr.heap.size wr w4 := by (repeat (first | with_reducible exact Below.refl _ _ | ((with_reducible refine Below.alloc1 ?_ ?_ _); (· first | omega | (simp; done) | (simp; omega))) | (with_reducible refine Below.drew ?_) | (with_reducible refine below_drewN' ?_ _) | ((with_reducible refine Below.setCell1 ?_ ?_ _); (· first | omega | (simp; done) | (simp; omega))) | ((with_reducible refine Below.after (by assumption) ?_ ?_); (· first | omega | (simp; done) | (simp; omega)))))
      with_reducible refine (tab2_put_f (i' := i1') hT hb4' x.lo x.hi x.a x.b x.n c0 hkx.1 hkx.2 Hput).mono ?_
      rintro e w5 ⟨rfl, hT5, hz5, hk5⟩
      have q1 : w5.cell? ⟨wr.heap.size, 1, none⟩ = some (.float .f64 x.lo) := by
        rw [hk5 _ (Nat.le_refl _) (by assumption)]; simp [go_sem, hc4]
      have q2 : w5.cell? ⟨wr.heap.size, 2, none⟩ = some (.float .f64 x.hi) := by
        rw [hk5 _ (Nat.le_refl _) (by assumption)]; simp [go_sem, hc4]
      have q3 : w5.cell? ⟨wr.heap.size, 3, none⟩ = some (.bool x.a) := by
        rw [hk5 _ (Nat.le_refl _) (by assumption)]; simp [go_sem, hc4]
      have q4 : w5.cell? ⟨wr.heap.size, 4, none⟩ = some (.bool x.b) := by
        rw [hk5 _ (Nat.le_refl _) (by assumption)]; simp [go_sem, hc4]
      have q5 : w5.cell? ⟨wr.heap.size, 5, none⟩ = some (.int .i64 x.n) := by
        rw [hk5 _ (Nat.le_refl _) (by assumption)]; simp [go_sem, hc4]
      have hs5 := hT5.b.size
      have hb5' : b < w5.heap.size := by omega
      obtain ⟨p0, p1, p2, p3, p4, p5, hky⟩ := hq w5 hT5.b
      clear hq
      have hy5' : wr.heap.size < w5.heap.size := by have := hb4'.size; omega
      have hg1 : decide (v3 < v1) = false := by simp; omega
      by_cases hc0 : c0 = 0
      · subst hc0
        cases hv
        · clear m1 m3
          go_wp2_with fail
          (refine wp_region_ext (by kernel_rfl) (by kernel_rfl) ?_; (repeat (go_big_quiet_step (first | (go_at_call 32; with_reducible exact Calls.ext_of (tab_at (Tab1.below (Tab1.below hT5.fst (by (repeat (first | with_reducible exact Below.refl _ _ | ((with_reducible refine Below.alloc1 ?_ ?_ _); (· first | omega | (simp; done) | (simp; omega))) | (with_reducible refine Below.drew ?_) | (with_reducible refine below_drewN' ?_ _) | ((with_reducible refine Below.setCell1 ?_ ?_ _); (· first | omega | (simp; done) | (simp; omega))) | ((with_reducible refine Below.after (by assumption) ?_ ?_); (· first | omega | (simp; done) | (simp; omega))))))) (Ext.b _)) key v3 hkey V3)) | (go_at_call 29; with_reducible exact Calls.ext_of (has_is x.lo x.hi x.a x.b key false _ hkx.1 hkx.2 HV))))); refine wpQuiet_nil ?_; rintro w6 ⟨x6, hx6⟩; have hb6 := x6.b; rw [← hx6] at hb6; clear hx6 x6; obtain ⟨hc6, hf6⟩ := bcell hb6; (try simp only [World.heap_drewN, World.cell?_drewN, World.frozen?_drewN] at hc6 hf6); have hz6 := hb6.size; (try simp at hz6); (try have hy6_0 : w.heap.size < w6.heap.size := by omega); (try have hy6_1 : w.heap.size + 1 < w6.heap.size := by omega); (try have hy6_2 : w.heap.size + 2 < w6.heap.size := by omega); (try have hy6_3 : w.heap.size + 3 < w6.heap.size := by omega); (try have hx6_0 : w.heap.size ≤ w6.heap.size := by omega); (try have hx6_1 : w.heap.size + 1 ≤ w6.heap.size := by omega); (try have hx6_2 : w.heap.size + 2 ≤ w6.heap.size := by omega); (try have hu6_wr_0 : wr.heap.size < w6.heap.size := by omega); (try have hu6_wr_1 : wr.heap.size + 1 < w6.heap.size := by omega); (try have hu6_w5_0 : w5.heap.size < w6.heap.size := by omega); (try have hu6_w5_1 : w5.heap.size + 1 < w6.heap.size := by omega))
          go_wp2_with fail
          with_reducible refine (tab2_put2 (i' := i2') (Tab2.below hT5 (by (repeat (first | with_reducible exact Below.refl _ _ | ((with_reducible refine Below.alloc1 ?_ ?_ _); (· first | omega | (simp; done) | (simp; omega))) | (with_reducible refine Below.drew ?_) | (with_reducible refine below_drewN' ?_ _) | ((with_reducible refine Below.setCell1 ?_ ?_ _); (· first | omega | (simp; done) | (simp; omega))) | ((with_reducible refine Below.after (by assumption) ?_ ?_); (· first | omega | (simp; done) | (simp; omega))))))) y.lo y.hi y.a y.b y.n c2 hky.1 hky.2 Hput2).mono ?_
          rintro e w7 ⟨rfl, hT7⟩
          go_wp2
          go_roundw
          case rel => exact ⟨i + 1, by omega, by go_num, by rw [HX.out, HY.out]; exact hT7⟩
          case measure => simp [intOf]; omega
        · have hg3 : decide (v3 < x.n) = false := by have := m3 rfl rfl; simp; omega
          clear m1 m3
          go_wp2_with fail
          (refine wp_region_ext (by kernel_rfl) (by kernel_rfl) ?_; (repeat (go_big_quiet_step (first | (go_at_call 32; with_reducible exact Calls.ext_of (tab_at (Tab1.below (Tab1.below hT5.fst (by (repeat (first | with_reducible exact Below.refl _ _ | ((with_reducible refine Below.alloc1 ?_ ?_ _); (· first | omega | (simp; done) | (simp; omega))) | (with_reducible refine Below.drew ?_) | (with_reducible refine below_drewN' ?_ _) | ((with_reducible refine Below.setCell1 ?_ ?_ _); (· first | omega | (simp; done) | (simp; omega))) | ((with_reducible refine Below.after (by assumption) ?_ ?_); (· first | omega | (simp; done) | (simp; omega))))))) (Ext.b _)) key v3 hkey V3)) | (go_at_call 29; with_reducible exact Calls.ext_of (has_is x.lo x.hi x.a x.b key true _ hkx.1 hkx.2 HV))))); refine wpQuiet_nil ?_; rintro w6 ⟨x6, hx6⟩; have hb6 := x6.b; rw [← hx6] at hb6; clear hx6 x6; obtain ⟨hc6, hf6⟩ := bcell hb6; (try simp only [World.heap_drewN, World.cell?_drewN, World.frozen?_drewN] at hc6 hf6); have hz6 := hb6.size; (try simp at hz6); (try have hy6_0 : w.heap.size < w6.heap.size := by omega); (try have hy6_1 : w.heap.size + 1 < w6.heap.size := by omega); (try have hy6_2 : w.heap.size + 2 < w6.heap.size := by omega); (try have hy6_3 : w.heap.size + 3 < w6.heap.size := by omega); (try have hx6_0 : w.heap.size ≤ w6.heap.size := by omega); (try have hx6_1 : w.heap.size + 1 ≤ w6.heap.size := by omega); (try have hx6_2 : w.heap.size + 2 ≤ w6.heap.size := by omega); (try have hu6_wr_0 : wr.heap.size < w6.heap.size := by omega); (try have hu6_wr_1 : wr.heap.size + 1 < w6.heap.size := by omega); (try have hu6_w5_0 : w5.heap.size < w6.heap.size := by omega); (try have hu6_w5_1 : w5.heap.size + 1 < w6.heap.size := by omega))
          go_wp2_with fail
          with_reducible refine (tab2_put2 (i' := i2') (Tab2.below hT5 (by (repeat (first | with_reducible exact Below.refl _ _ | ((with_reducible refine Below.alloc1 ?_ ?_ _); (· first | omega | (simp; done) | (simp; omega))) | (with_reducible refine Below.drew ?_) | (with_reducible refine below_drewN' ?_ _) | ((with_reducible refine Below.setCell1 ?_ ?_ _); (· first | omega | (simp; done) | (simp; omega))) | ((with_reducible refine Below.after (by assumption) ?_ ?_); (· first | omega | (simp; done) | (simp; omega))))))) y.lo y.hi y.a y.b y.n c2 hky.1 hky.2 Hput2).mono ?_
          rintro e w7 ⟨rfl, hT7⟩
          go_wp2
          go_roundw
          case rel => exact ⟨i + 1, by omega, by go_num, by rw [HX.out, HY.out]; exact hT7⟩
          case measure => simp [intOf]; omega
      · have hc1 : (c0 == 0) = false := by simpa using hc0
        clear m1 m3
        go_wp2_with fail
        (refine wp_region_ext (by kernel_rfl) (by kernel_rfl) ?_; (repeat (go_big_quiet_step (first | (go_at_call 32; with_reducible exact Calls.ext_of (tab_at (Tab1.below (Tab1.below hT5.fst (by (repeat (first | with_reducible exact Below.refl _ _ | ((with_reducible refine Below.alloc1 ?_ ?_ _); (· first | omega | (simp; done) | (simp; omega))) | (with_reducible refine Below.drew ?_) | (with_reducible refine below_drewN' ?_ _) | ((with_reducible refine Below.setCell1 ?_ ?_ _); (· first | omega | (simp; done) | (simp; omega))) | ((with_reducible refine Below.after (by assumption) ?_ ?_); (· first | omega | (simp; done) | (simp; omega))))))) (Ext.b _)) key v3 hkey V3))))); refine wpQuiet_nil ?_; rintro w6 ⟨x6, hx6⟩; have hb6 := x6.b; rw [← hx6] at hb6; clear hx6 x6; obtain ⟨hc6, hf6⟩ := bcell hb6; (try simp only [World.heap_drewN, World.cell?_drewN, World.frozen?_drewN] at hc6 hf6); have hz6 := hb6.size; (try simp at hz6); (try have hy6_0 : w.heap.size < w6.heap.size := by omega); (try have hy6_1 : w.heap.size + 1 < w6.heap.size := by omega); (try have hy6_2 : w.heap.size + 2 < w6.heap.size := by omega); (try have hy6_3 : w.heap.size + 3 < w6.heap.size := by omega); (try have hx6_0 : w.heap.size ≤ w6.heap.size := by omega); (try have hx6_1 : w.heap.size + 1 ≤ w6.heap.size := by omega); (try have hx6_2 : w.heap.size + 2 ≤ w6.heap.size := by omega); (try have hu6_wr_0 : wr.heap.size < w6.heap.size := by omega); (try have hu6_wr_1 : wr.heap.size + 1 < w6.heap.size := by omega); (try have hu6_w5_0 : w5.heap.size < w6.heap.size := by omega); (try have hu6_w5_1 : w5.heap.size + 1 < w6.heap.size := by omega))
        go_wp2_with fail
        with_reducible refine (tab2_put2 (i' := i2') (Tab2.below hT5 (by (repeat (first | with_reducible exact Below.refl _ _ | ((with_reducible refine Below.alloc1 ?_ ?_ _); (· first | omega | (simp; done) | (simp; omega))) | (with_reducible refine Below.drew ?_) | (with_reducible refine below_drewN' ?_ _) | ((with_reducible refine Below.setCell1 ?_ ?_ _); (· first | omega | (simp; done) | (simp; omega))) | ((with_reducible refine Below.after (by assumption) ?_ ?_); (· first | omega | (simp; done) | (simp; omega))))))) y.lo y.hi y.a y.b y.n c2 hky.1 hky.2 Hput2).mono ?_
        rintro e w7 ⟨rfl, hT7⟩
        go_wp2
        go_roundw
        case rel => exact ⟨i + 1, by omega, by go_num, by rw [HX.out, HY.out]; exact hT7⟩
        case measure => simp [intOf]; omega
    · obtain rfl : i = 60 := by omega
      have hT : Tab2 w wr T T2 64 (putAll [] 64 oq) (putAll [] 64 oq) := by
        have h1 : oq.take 60 = oq := by rw [← HN.out]; exact List.take_length
        have h2 : oq.reverse.take 60 = oq.reverse := by rw [← HN.out, ← List.length_reverse]; exact List.take_length
        rw [h1, h2, hrev] at hT; exact hT
      generalize putAll [] 64 oq = its at *
      clear hrev
      obtain ⟨v1, V1⟩ : ∃ v, Hid (atI its key = v) := ⟨_, hid rfl⟩
      have hl64 : its.length ≤ 64 := by have := hT.le1; omega
      obtain ⟨N, hN⟩ : ∃ N, its.length = N := ⟨_, rfl⟩
      have HNN := hid hN
      have V3 : Hid ((its.length : Int) = (N : Int)) := hid (by rw [hN])
      have HS := hid fun t x (hx : its[t]? = some x) => at_step hx (key := key)
      have HF : Hid (atI (its.take N) key = v1) := hid (by rw [← hN, List.take_length]; exact V1.out)
      rw [hN] at hl64
      go_wp2_with (go_at_call 34; (with_reducible refine (tab_all hT.fst).mono ?_); rintro e w4 ⟨a4, c4, rfl, hr4, hb4⟩)
      have HA := hid (fun h0 => own_at hr4 rfl h0)
      rw [hN] at HA
      have hT4 := hT.below hb4
      clear hr4 hT hN
      go_loopw [89, 12] (fun iv nv w6 => ∃ k : Nat, k ≤ N ∧ iv = .int .i64 k ∧ nv = .int .i64 (atI (its.take k) key) ∧ Below w4.heap.size w4 w6) (fun iv _ _ => N - (intOf iv).toNat)
      case atStart => exact ⟨0, Nat.zero_le _, rfl, rfl, by (repeat (first | with_reducible exact Below.refl _ _ | ((with_reducible refine Below.alloc1 ?_ ?_ _); (· first | omega | (simp; done) | (simp; omega))) | (with_reducible refine Below.drew ?_) | (with_reducible refine below_drewN' ?_ _) | ((with_reducible refine Below.setCell1 ?_ ?_ _); (· first | omega | (simp; done) | (simp; omega))) | ((with_reducible refine Below.after (by assumption) ?_ ?_); (· first | omega | (simp; done) | (simp; omega)))))⟩
      case round =>
        obtain ⟨k, hk, rfl, rfl, hb6⟩ := hrel
        have hT6 := hT4.below hb6
        have hz6 := hb6.size
        by_cases hltk : k < N
        · have hltk' : (k : Int) < (N : Int) := by omega
          obtain ⟨g, rfl, hg, hcs⟩ := HA.out (by omega)
          have hkl : k < its.length := by rw [HNN.out]; exact hltk
          obtain ⟨d0, d1, d2, d3, d4⟩ := hcs k hltk
          have d0 := (hb6.cell (p := ⟨g, _, none⟩) hg).trans d0
          have d1 := (hb6.cell (p := ⟨g, _, none⟩) hg).trans d1
          have d2 := (hb6.cell (p := ⟨g, _, none⟩) hg).trans d2
          have d3 := (hb6.cell (p := ⟨g, _, none⟩) hg).trans d3
          have d4 := (hb6.cell (p := ⟨g, _, none⟩) hg).trans d4
          have hgw : g < wr.heap.size := by omega
          have hx := it_some hkl
          generalize its[k]?.getD default = x at *
          have hv := HS.out k x hx
          clear hcs hx hkl
          generalize hcur : atI (its.take k) key = cur at *
          cases hh : hasB x.k.rg key
          · rw [if_neg (by rw [hh]; simp)] at hv
            have hv' := hid hv
            have hhas := fun W => has_is x.k.lo.bits x.k.hi.bits false false key false W (Key.bits_lt _) (Key.bits_lt _) (hid (by rw [canonS_canon _ _ x.k.le]; exact hh))
            clear hv hh
            go_wp2_with (go_at_call 29; (with_reducible refine (hhas _).mono ?_); rintro e w7 ⟨rfl, hb7⟩; obtain ⟨hc7, hf7⟩ := bcell hb7; (try simp only [World.heap_drewN, World.cell?_drewN, World.frozen?_drewN] at hc7 hf7); have hz7 := hb7.size; (try simp at hz7); (try have hy7_0 : w.heap.size < w7.heap.size := by omega); (try have hy7_1 : w.heap.size + 1 < w7.heap.size := by omega); (try have hy7_2 : w.heap.size + 2 < w7.heap.size := by omega); (try have hy7_3 : w.heap.size + 3 < w7.heap.size := by omega); (try have hx7_0 : w.heap.size ≤ w7.heap.size := by omega); (try have hx7_1 : w.heap.size + 1 ≤ w7.heap.size := by omega); (try have hx7_2 : w.heap.size + 2 ≤ w7.heap.size := by omega))
            go_roundw
            case rel => exact ⟨k + 1, by omega, by go_num, by rw [hv'.out], by (repeat (first | with_reducible exact Below.refl _ _ | ((with_reducible refine Below.alloc1 ?_ ?_ _); (· first | omega | (simp; done) | (simp; omega))) | (with_reducible refine Below.drew ?_) | (with_reducible refine below_drewN' ?_ _) | ((with_reducible refine Below.setCell1 ?_ ?_ _); (· first | omega | (simp; done) | (simp; omega))) | ((with_reducible refine Below.after (by assumption) ?_ ?_); (· first | omega | (simp; done) | (simp; omega)))))⟩
            case measure => simp [intOf]; omega
          · rw [if_pos hh] at hv
            have hv' := hid hv
            have hhas := fun W => has_is x.k.lo.bits x.k.hi.bits false false key true W (Key.bits_lt _) (Key.bits_lt _) (hid (by rw [canonS_canon _ _ x.k.le]; exact hh))
            clear hv hh
            go_wp2_with (go_at_call 29; (with_reducible refine (hhas _).mono ?_); rintro e w7 ⟨rfl, hb7⟩; obtain ⟨hc7, hf7⟩ := bcell hb7; (try simp only [World.heap_drewN, World.cell?_drewN, World.frozen?_drewN] at hc7 hf7); have hz7 := hb7.size; (try simp at hz7); (try have hy7_0 : w.heap.size < w7.heap.size := by omega); (try have hy7_1 : w.heap.size + 1 < w7.heap.size := by omega); (try have hy7_2 : w.heap.size + 2 < w7.heap.size := by omega); (try have hy7_3 : w.heap.size + 3 < w7.heap.size := by omega); (try have hx7_0 : w.heap.size ≤ w7.heap.size := by omega); (try have hx7_1 : w.heap.size + 1 ≤ w7.heap.size := by omega); (try have hx7_2 : w.heap.size + 2 ≤ w7.heap.size := by omega))
            go_roundw
            case rel => exact ⟨k + 1, by omega, by go_num, by rw [hv'.out], by (repeat (first | with_reducible exact Below.refl _ _ | ((with_reducible refine Below.alloc1 ?_ ?_ _); (· first | omega | (simp; done) | (simp; omega))) | (with_reducible refine Below.drew ?_) | (with_reducible refine below_drewN' ?_ _) | ((with_reducible refine Below.setCell1 ?_ ?_ _); (· first | omega | (simp; done) | (simp; omega))) | ((with_reducible refine Below.after (by assumption) ?_ ?_); (· first | omega | (simp; done) | (simp; omega)))))⟩
            case measure => simp [intOf]; omega
        · obtain rfl : k = N := by omega
          rw [HF.out]
          have h1 := hT6.fst
          have h2 := hT6.snd
          go_wp2_with (first | (go_at_call 32; (with_reducible refine (tab_at (T := T) (Tab1.below h1 (by (repeat (first | with_reducible exact Below.refl _ _ | ((with_reducible refine Below.alloc1 ?_ ?_ _); (· first | omega | (simp; done) | (simp; omega))) | (with_reducible refine Below.drew ?_) | (with_reducible refine below_drewN' ?_ _) | ((with_reducible refine Below.setCell1 ?_ ?_ _); (· first | omega | (simp; done) | (simp; omega))) | ((with_reducible refine Below.after (by assumption) ?_ ?_); (· first | omega | (simp; done) | (simp; omega))))))) key v1 hkey V1).mono ?_); rintro e w8 ⟨rfl, hb8⟩; obtain ⟨hc8, hf8⟩ := bcell hb8; (try simp only [World.heap_drewN, World.cell?_drewN, World.frozen?_drewN] at hc8 hf8); have hz8 := hb8.size; (try simp at hz8); (try have hy8_0 : w.heap.size < w8.heap.size := by omega); (try have hy8_1 : w.heap.size + 1 < w8.heap.size := by omega); (try have hy8_2 : w.heap.size + 2 < w8.heap.size := by omega); (try have hy8_3 : w.heap.size + 3 < w8.heap.size := by omega); (try have hx8_0 : w.heap.size ≤ w8.heap.size := by omega); (try have hx8_1 : w.heap.size + 1 ≤ w8.heap.size := by omega); (try have hx8_2 : w.heap.size + 2 ≤ w8.heap.size := by omega)) | (go_at_call 32; (with_reducible refine (tab_at (T := T2) (Tab1.below h2 (by (repeat (first | with_reducible exact Below.refl _ _ | ((with_reducible refine Below.alloc1 ?_ ?_ _); (· first | omega | (simp; done) | (simp; omega))) | (with_reducible refine Below.drew ?_) | (with_reducible refine below_drewN' ?_ _) | ((with_reducible refine Below.setCell1 ?_ ?_ _); (· first | omega | (simp; done) | (simp; omega))) | ((with_reducible refine Below.after (by assumption) ?_ ?_); (· first | omega | (simp; done) | (simp; omega))))))) key v1 hkey V1).mono ?_); rintro e w9 ⟨rfl, hb9⟩; obtain ⟨hc9, hf9⟩ := bcell hb9; (try simp only [World.heap_drewN, World.cell?_drewN, World.frozen?_drewN] at hc9 hf9); have hz9 := hb9.size; (try simp at hz9); (try have hy9_0 : w.heap.size < w9.heap.size := by omega); (try have hy9_1 : w.heap.size + 1 < w9.heap.size := by omega); (try have hy9_2 : w.heap.size + 2 < w9.heap.size := by omega); (try have hy9_3 : w.heap.size + 3 < w9.heap.size := by omega); (try have hx9_0 : w.heap.size ≤ w9.heap.size := by omega); (try have hx9_1 : w.heap.size + 1 ≤ w9.heap.size := by omega); (try have hx9_2 : w.heap.size + 2 ≤ w9.heap.size := by omega)) | (go_at_call 35; (with_reducible refine (tab_len (T := T2) (Tab1.below h2 (by (repeat (first | with_reducible exact Below.refl _ _ | ((with_reducible refine Below.alloc1 ?_ ?_ _); (· first | omega | (simp; done) | (simp; omega))) | (with_reducible refine Below.drew ?_) | (with_reducible refine below_drewN' ?_ _) | ((with_reducible refine Below.setCell1 ?_ ?_ _); (· first | omega | (simp; done) | (simp; omega))) | ((with_reducible refine Below.after (by assumption) ?_ ?_); (· first | omega | (simp; done) | (simp; omega))))))) _ V3).mono ?_); rintro e w10 ⟨rfl, hb10⟩; obtain ⟨hc10, hf10⟩ := bcell hb10; (try simp only [World.heap_drewN, World.cell?_drewN, World.frozen?_drewN] at hc10 hf10); have hz10 := hb10.size; (try simp at hz10); (try have hy10_0 : w.heap.size < w10.heap.size := by omega); (try have hy10_1 : w.heap.size + 1 < w10.heap.size := by omega); (try have hy10_2 : w.heap.size + 2 < w10.heap.size := by omega); (try have hy10_3 : w.heap.size + 3 < w10.heap.size := by omega); (try have hx10_0 : w.heap.size ≤ w10.heap.size := by omega); (try have hx10_1 : w.heap.size + 1 ≤ w10.heap.size := by omega); (try have hx10_2 : w.heap.size + 2 ≤ w10.heap.size := by omega)) | (go_at_call 35; (with_reducible refine (tab_len (T := T) (Tab1.below h1 (by (repeat (first | with_reducible exact Below.refl _ _ | ((with_reducible refine Below.alloc1 ?_ ?_ _); (· first | omega | (simp; done) | (simp; omega))) | (with_reducible refine Below.drew ?_) | (with_reducible refine below_drewN' ?_ _) | ((with_reducible refine Below.setCell1 ?_ ?_ _); (· first | omega | (simp; done) | (simp; omega))) | ((with_reducible refine Below.after (by assumption) ?_ ?_); (· first | omega | (simp; done) | (simp; omega))))))) _ V3).mono ?_); rintro e w11 ⟨rfl, hb11⟩; obtain ⟨hc11, hf11⟩ := bcell hb11; (try simp only [World.heap_drewN, World.cell?_drewN, World.frozen?_drewN] at hc11 hf11); have hz11 := hb11.size; (try simp at hz11); (try have hy11_0 : w.heap.size < w11.heap.size := by omega); (try have hy11_1 : w.heap.size + 1 < w11.heap.size := by omega); (try have hy11_2 : w.heap.size + 2 < w11.heap.size := by omega); (try have hy11_3 : w.heap.size + 3 < w11.heap.size := by omega); (try have hx11_0 : w.heap.size ≤ w11.heap.size := by omega); (try have hx11_1 : w.heap.size + 1 ≤ w11.heap.size := by omega); (try have hx11_2 : w.heap.size + 2 ≤ w11.heap.size := by omega)))
          go_ret
          exact ⟨rfl, (show Tab1 w _ T 64 its from (by first | assumption | exact Tab1.below (by assumption) (by (repeat (first | with_reducible exact Below.refl _ _ | ((with_reducible refine Below.alloc1 ?_ ?_ _); (· first | omega | (simp; done) | (simp; omega))) | (with_reducible refine Below.drew ?_) | (with_reducible refine below_drewN' ?_ _) | ((with_reducible refine Below.setCell1 ?_ ?_ _); (· first | omega | (simp; done) | (simp; omega))) | ((with_reducible refine Below.after (by assumption) ?_ ?_); (· first | omega | (simp; done) | (simp; omega)))))))).b⟩

theorem predsAt_walk (a : Option Addr) (c : Nat) (ops : List OpV) (key : Nat) (w : World) (ho : OAt w a ops) (hca : ops.length ≤ c ∧ c ≤ 9223372036854775807) (hkey : key < 2 ^ 64) :
    Calls Try.prog 7 #[.slice a ops.length c, .float .f64 key] w (Ret (.bool true) w) := by
  by_cases h : ops.length ≤ 60
  · exact predsAt_short a c ops key w ho hca h hkey
  · exact predsAt_cut a c ops key w ho hca (by omega) hkey
end Go.Proofs.Ytnlaepogkepnhaa.Q
