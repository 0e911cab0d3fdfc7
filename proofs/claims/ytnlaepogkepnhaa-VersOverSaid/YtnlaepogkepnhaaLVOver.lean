/- The walk of VersOver. -/
import Derived.Test.YtnlaepogkepnhaaVP
import Derived.Test.YtnlaepogkepnhaaR01
namespace Go.Proofs.Ytnlaepogkepnhaa
set_option linter.unusedVariables false
open Go.RowKit Fl

theorem one_key (k : Key) (w : World) : Calls Try.prog 28 #[.float .f64 k.bits] w (Ret (.agg #[.float .f64 k.bits, .float .f64 k.bits, .bool false, .bool false]) w) :=
  one_isS k.bits k k w (Key.bits_lt k) (hid (canonS_canon k k (Int.le_refl _)))

set_option maxRecDepth 100000 in
theorem versOver_walk (a : Option Addr) (c : Nat) (ops : List OpV) (lo hi : Nat) (b1 b2 : Bool) (w : World) (ho : OAt w a ops) (hl : lo < 2 ^ 64) (hh : hi < 2 ^ 64) :
    Calls Try.prog 6 #[.slice a ops.length c, .agg #[.float .f64 lo, .float .f64 hi, .bool b1, .bool b2]] w (Ret (.bool true) w) := by
  obtain ⟨n, hn⟩ : ∃ n, ops.length = n := ⟨_, rfl⟩
  have hmax : n ≤ 9223372036854775807 := by have := ho.len; unfold maxLen at this; omega
  have HO := hid ho
  rw [hn]
  have HN := hid hn
  clear ho hn
  go_enter Try.func6, Try.ntmps6
  go_wp2_with fail
  with_reducible refine (tab_new (Below.refl _ _) 64 (by omega) (by omega)).mono ?_
  rintro e w1 ⟨T, rfl, hT0⟩
  obtain ⟨W0, hW0⟩ : ∃ W0, W0 = w.alloc (.cells #[.float .f64 lo, .float .f64 hi, .bool b1, .bool b2] 25) := ⟨_, rfl⟩
  have hB0 : Below w.heap.size w W0 := by rw [hW0]; (repeat (first | with_reducible exact Below.refl _ _ | ((with_reducible refine Below.alloc1 ?_ ?_ _); (· first | omega | (simp; done) | (simp; omega))) | (with_reducible refine Below.drew ?_) | (with_reducible refine below_drewN' ?_ _) | ((with_reducible refine Below.setCell1 ?_ ?_ _); (· first | omega | (simp; done) | (simp; omega))) | ((with_reducible refine Below.after (by assumption) ?_ ?_); (· first | omega | (simp; done) | (simp; omega)))))
  have hz0 : W0.heap.size = w.heap.size + 1 := by rw [hW0]; simp
  have s0 : W0.cell? ⟨w.heap.size, 0, none⟩ = some (.float .f64 lo) := by rw [hW0]; simp [go_sem]
  have s1 : W0.cell? ⟨w.heap.size, 1, none⟩ = some (.float .f64 hi) := by rw [hW0]; simp [go_sem]
  have s2 : W0.cell? ⟨w.heap.size, 2, none⟩ = some (.bool b1) := by rw [hW0]; simp [go_sem]
  have s3 : W0.cell? ⟨w.heap.size, 3, none⟩ = some (.bool b2) := by rw [hW0]; simp [go_sem]
  have hT1 : Tab1 W0 w1 T 64 [] := by rw [hW0]; exact hT0
  clear hT0 hW0
  have hBox : w.heap.size < W0.heap.size := by omega
  go_wp2_with (go_at_call 12; (with_reducible refine (alive_any _).mono ?_); rintro e w2 ⟨rfl, hb2⟩; obtain ⟨hc2, hf2⟩ := bcell hb2; (try simp only [World.heap_drewN, World.cell?_drewN, World.frozen?_drewN] at hc2 hf2); have hz2 := hb2.size; (try simp at hz2); (try have hy2_0 : w.heap.size < w2.heap.size := by omega); (try have hy2_1 : w.heap.size + 1 < w2.heap.size := by omega); (try have hy2_2 : w.heap.size + 2 < w2.heap.size := by omega); (try have hy2_3 : w.heap.size + 3 < w2.heap.size := by omega); (try have hx2_0 : w.heap.size ≤ w2.heap.size := by omega); (try have hx2_1 : w.heap.size + 1 ≤ w2.heap.size := by omega); (try have hx2_2 : w.heap.size + 2 ≤ w2.heap.size := by omega))
  go_loopw [21] (fun iv wr => ∃ i : Nat, i ≤ n ∧ iv = .int .i64 i ∧ Tab1 W0 wr T 64 (putAll [] 64 (ops.take i))) (fun iv _ => n - (intOf iv).toNat)
  case atStart => exact ⟨0, Nat.zero_le _, rfl, (by first | assumption | exact Tab1.below (by assumption) (by (repeat (first | with_reducible exact Below.refl _ _ | ((with_reducible refine Below.alloc1 ?_ ?_ _); (· first | omega | (simp; done) | (simp; omega))) | (with_reducible refine Below.drew ?_) | (with_reducible refine below_drewN' ?_ _) | ((with_reducible refine Below.setCell1 ?_ ?_ _); (· first | omega | (simp; done) | (simp; omega))) | ((with_reducible refine Below.after (by assumption) ?_ ?_); (· first | omega | (simp; done) | (simp; omega)))))))⟩
  case round =>
    obtain ⟨i, hin, rfl, hT⟩ := hrel
    clear hT1 hb2 hc2 hf2
    by_cases hlt : i < n
    · have hlt' : (i : Int) < (n : Int) := by omega
      have hil : i < ops.length := by rw [HN.out]; exact hlt
      have hx := hid (op_some hil)
      rcases HO.out.row with h0 | ⟨b, o, rfl, hb, hcs⟩
      · exfalso; rw [h0] at hil; simp at hil
      obtain ⟨d0, d1, d2⟩ := hcs i hil
      have hb' : b < W0.heap.size := by omega
      have d0 := (hT.b.cell (p := ⟨b, _, none⟩) hb').trans ((hB0.cell (p := ⟨b, _, none⟩) hb).trans d0)
      have d1 := (hT.b.cell (p := ⟨b, _, none⟩) hb').trans ((hB0.cell (p := ⟨b, _, none⟩) hb).trans d1)
      have d2 := (hT.b.cell (p := ⟨b, _, none⟩) hb').trans ((hB0.cell (p := ⟨b, _, none⟩) hb).trans d2)
      have hk := HO.out.lt i hil
      generalize ops[i]?.getD default = x at *
      have HX := hid (putAll_snoc [] 64 hx.out)
      clear hcs hil
      go_wp2_with (go_at_call 15; (with_reducible refine (tab_put (its' := (putI (putAll [] 64 (ops.take i)) 64 x.key x.n).2) (by first | assumption | exact Tab1.below (by assumption) (by (repeat (first | with_reducible exact Below.refl _ _ | ((with_reducible refine Below.alloc1 ?_ ?_ _); (· first | omega | (simp; done) | (simp; omega))) | (with_reducible refine Below.drew ?_) | (with_reducible refine below_drewN' ?_ _) | ((with_reducible refine Below.setCell1 ?_ ?_ _); (· first | omega | (simp; done) | (simp; omega))) | ((with_reducible refine Below.after (by assumption) ?_ ?_); (· first | omega | (simp; done) | (simp; omega))))))) _ _ (putI (putAll [] 64 (ops.take i)) 64 x.key x.n).1 hk (hid rfl)).mono ?_); rintro e w3 ⟨rfl, hT3⟩)
      go_roundw
      case rel => exact ⟨i + 1, by omega, by go_num, by rw [HX.out]; exact (by first | assumption | exact Tab1.below (by assumption) (by (repeat (first | with_reducible exact Below.refl _ _ | ((with_reducible refine Below.alloc1 ?_ ?_ _); (· first | omega | (simp; done) | (simp; omega))) | (with_reducible refine Below.drew ?_) | (with_reducible refine below_drewN' ?_ _) | ((with_reducible refine Below.setCell1 ?_ ?_ _); (· first | omega | (simp; done) | (simp; omega))) | ((with_reducible refine Below.after (by assumption) ?_ ?_); (· first | omega | (simp; done) | (simp; omega)))))))⟩
      case measure => simp [intOf]; omega
    · obtain rfl : i = n := by omega
      have hT : Tab1 W0 wr T 64 (putAll [] 64 ops) := by rw [← HN.out, List.take_length] at hT; exact hT
      have hpos := putAll_pos pos_nil 64 ops
      generalize putAll [] 64 ops = its at *
      clear HO HN
      go_wp2_with (go_at_call 17; (with_reducible refine (tab_all (by first | assumption | exact Tab1.below (by assumption) (by (repeat (first | with_reducible exact Below.refl _ _ | ((with_reducible refine Below.alloc1 ?_ ?_ _); (· first | omega | (simp; done) | (simp; omega))) | (with_reducible refine Below.drew ?_) | (with_reducible refine below_drewN' ?_ _) | ((with_reducible refine Below.setCell1 ?_ ?_ _); (· first | omega | (simp; done) | (simp; omega))) | ((with_reducible refine Below.after (by assumption) ?_ ?_); (· first | omega | (simp; done) | (simp; omega)))))))).mono ?_); rintro e w5 ⟨a4, c4, rfl, hr5, hb5⟩)
      have hT5 := hT.below hb5
      have HA := hid (own_at hr5)
      have hup := hT.up
      have HP := hid hpos
      have HU := hid hup
      have hl64 : its.length ≤ 64 := by have := hT.le; omega
      obtain ⟨N, hN⟩ : ∃ N, its.length = N := ⟨_, rfl⟩
      have HN := hid hN
      rw [hN] at HA hl64
      have HF : Hid (its.take N = its) := hid (by rw [← hN]; exact List.take_length)
      clear hr5 hT hb5 hup hpos
      rw [hN]
      clear hN
      obtain ⟨r, hr⟩ : ∃ r, canonS lo hi b1 b2 = r := ⟨_, rfl⟩
      have HR := hid hr
      clear hr
      go_wp2
      go_loopw [36, 8] (fun iv lv w6 => ∃ k : Nat, k ≤ N ∧ iv = .int .i64 k ∧ lv = .int .i64 (overI (its.take k) r) ∧ Below w5.heap.size w5 w6) (fun iv _ _ => N - (intOf iv).toNat)
      case atStart => exact ⟨0, Nat.zero_le _, rfl, rfl, by (repeat (first | with_reducible exact Below.refl _ _ | ((with_reducible refine Below.alloc1 ?_ ?_ _); (· first | omega | (simp; done) | (simp; omega))) | (with_reducible refine Below.drew ?_) | (with_reducible refine below_drewN' ?_ _) | ((with_reducible refine Below.setCell1 ?_ ?_ _); (· first | omega | (simp; done) | (simp; omega))) | ((with_reducible refine Below.after (by assumption) ?_ ?_); (· first | omega | (simp; done) | (simp; omega)))))⟩
      case round =>
        obtain ⟨k, hk, rfl, rfl, hb6⟩ := hrel
        have hT6 := hT5.below hb6
        have hz6 := hb6.size
        have e0 := (hT6.b.cell (p := ⟨w.heap.size, 0, none⟩) hBox).trans s0
        have e1 := (hT6.b.cell (p := ⟨w.heap.size, 1, none⟩) hBox).trans s1
        have e2 := (hT6.b.cell (p := ⟨w.heap.size, 2, none⟩) hBox).trans s2
        have e3 := (hT6.b.cell (p := ⟨w.heap.size, 3, none⟩) hBox).trans s3
        have hs6 := hT6.b.size
        have hy6 : w.heap.size < wr.heap.size := by omega
        by_cases hlt : k < N
        · have hlt' : (k : Int) < (N : Int) := by omega
          obtain ⟨g, rfl, hg, hcs⟩ := HA.out (by omega)
          have hkl : k < its.length := by rw [HN.out]; exact hlt
          obtain ⟨d0, d1⟩ := hcs k hlt
          have d0 := (hb6.cell (p := ⟨g, _, none⟩) hg).trans d0
          have d1 := (hb6.cell (p := ⟨g, _, none⟩) hg).trans d1
          have hx := it_some hkl
          have hgw : g < wr.heap.size := by omega
          have hA1 := hid (atI_mem HU.out (it_mem hx))
          have hO1 := hid (over_one HU.out HP.out (it_mem hx))
          have hS1 := hid (over_snoc hx r)
          have hO2 : Hid (overI its (canonS (its[k]?.getD default).k.bits (its[k]?.getD default).k.bits false false) = (its[k]?.getD default).n) := hid (by rw [canonS_canon _ _ (Int.le_refl _)]; exact hO1.out)
          have hH := hid (show hasB (canonS lo hi b1 b2) (its[k]?.getD default).k.bits = hasB r (its[k]?.getD default).k.bits by rw [HR.out])
          rcases k with _ | k
          · generalize its[0]?.getD default = x at *
            generalize hasB r x.k.bits = q at *
            clear hcs hx hkl
            go_wp2
            (refine wp_region_ext (by kernel_rfl) (by kernel_rfl) ?_; (repeat (go_big_quiet_step (first | (go_at_call 13; with_reducible exact Calls.ext_of (tab_at (Tab1.below (Tab1.below hT6 (by (repeat (first | with_reducible exact Below.refl _ _ | ((with_reducible refine Below.alloc1 ?_ ?_ _); (· first | omega | (simp; done) | (simp; omega))) | (with_reducible refine Below.drew ?_) | (with_reducible refine below_drewN' ?_ _) | ((with_reducible refine Below.setCell1 ?_ ?_ _); (· first | omega | (simp; done) | (simp; omega))) | ((with_reducible refine Below.after (by assumption) ?_ ?_); (· first | omega | (simp; done) | (simp; omega))))))) (Ext.b _)) _ x.n (Key.bits_lt _) hA1)) | (go_at_call 28; with_reducible exact Calls.ext_of (one_key x.k _)) | (go_at_call 14; with_reducible exact Calls.ext_of (tab_over (Tab1.below (Tab1.below hT6 (by (repeat (first | with_reducible exact Below.refl _ _ | ((with_reducible refine Below.alloc1 ?_ ?_ _); (· first | omega | (simp; done) | (simp; omega))) | (with_reducible refine Below.drew ?_) | (with_reducible refine below_drewN' ?_ _) | ((with_reducible refine Below.setCell1 ?_ ?_ _); (· first | omega | (simp; done) | (simp; omega))) | ((with_reducible refine Below.after (by assumption) ?_ ?_); (· first | omega | (simp; done) | (simp; omega))))))) (Ext.b _)) x.k.bits x.k.bits false false x.n (Key.bits_lt _) (Key.bits_lt _) hO2))))); refine wpQuiet_nil ?_; rintro w7 ⟨x7, hx7⟩; have hb7 := x7.b; rw [← hx7] at hb7; clear hx7 x7; obtain ⟨hc7, hf7⟩ := bcell hb7; (try simp only [World.heap_drewN, World.cell?_drewN, World.frozen?_drewN] at hc7 hf7); have hz7 := hb7.size; (try simp at hz7); (try have hy7_0 : w.heap.size < w7.heap.size := by omega); (try have hy7_1 : w.heap.size + 1 < w7.heap.size := by omega); (try have hy7_2 : w.heap.size + 2 < w7.heap.size := by omega); (try have hy7_3 : w.heap.size + 3 < w7.heap.size := by omega); (try have hx7_0 : w.heap.size ≤ w7.heap.size := by omega); (try have hx7_1 : w.heap.size + 1 ≤ w7.heap.size := by omega); (try have hx7_2 : w.heap.size + 2 ≤ w7.heap.size := by omega); (try have hu7_wr_0 : wr.heap.size < w7.heap.size := by omega); (try have hu7_wr_1 : wr.heap.size + 1 < w7.heap.size := by omega))
            cases q
            all_goals
              go_wp2_with (go_at_call 29; (with_reducible refine (has_is lo hi b1 b2 _ _ _ hl hh hH).mono ?_); rintro e w8 ⟨rfl, hb8⟩; obtain ⟨hc8, hf8⟩ := bcell hb8; (try simp only [World.heap_drewN, World.cell?_drewN, World.frozen?_drewN] at hc8 hf8); have hz8 := hb8.size; (try simp at hz8); (try have hy8_0 : w.heap.size < w8.heap.size := by omega); (try have hy8_1 : w.heap.size + 1 < w8.heap.size := by omega); (try have hy8_2 : w.heap.size + 2 < w8.heap.size := by omega); (try have hy8_3 : w.heap.size + 3 < w8.heap.size := by omega); (try have hx8_0 : w.heap.size ≤ w8.heap.size := by omega); (try have hx8_1 : w.heap.size + 1 ≤ w8.heap.size := by omega); (try have hx8_2 : w.heap.size + 2 ≤ w8.heap.size := by omega); (try have hu8_wr_0 : wr.heap.size < w8.heap.size := by omega); (try have hu8_wr_1 : wr.heap.size + 1 < w8.heap.size := by omega))
              go_roundw
              case rel => exact ⟨1, by omega, by go_num, by rw [hS1.out]; rfl, by (repeat (first | with_reducible exact Below.refl _ _ | ((with_reducible refine Below.alloc1 ?_ ?_ _); (· first | omega | (simp; done) | (simp; omega))) | (with_reducible refine Below.drew ?_) | (with_reducible refine below_drewN' ?_ _) | ((with_reducible refine Below.setCell1 ?_ ?_ _); (· first | omega | (simp; done) | (simp; omega))) | ((with_reducible refine Below.after (by assumption) ?_ ?_); (· first | omega | (simp; done) | (simp; omega)))))⟩
              case measure => simp [intOf]; omega
          · have hlt2 : ((k + 1 : Nat) : Int) > 0 := by omega
            have hsub : ((k + 1 : Nat) : Int) - 1 = (k : Int) := by omega
            have hkp : (k : Int) < (N : Int) := by omega
            have hkl' : k < its.length := by omega
            obtain ⟨f0, _⟩ := hcs k (by omega)
            have f0 := (hb6.cell (p := ⟨g, _, none⟩) hg).trans f0
            have hcmp : cmpI (codeOf (its[k]?.getD default).k.bits) (codeOf (its[k + 1]?.getD default).k.bits) = -1 := by
              have h1 := (List.pairwise_iff_getElem.1 HU.out) k (k + 1) hkl' hkl (by omega)
              have h2 := it_some hkl'
              rw [List.getElem?_eq_getElem hkl', List.getElem?_eq_getElem hkl, Option.getD_some, Option.getD_some, codeOf_key, codeOf_key]
              unfold cmpI
              rw [if_pos ((kcode_lt _ _).2 h1)]
            have HC := fun W => refCmp01_any (its[k]?.getD default).k.bits (its[k + 1]?.getD default).k.bits (Key.bits_lt _) (Key.bits_lt _) W
            rw [hcmp] at HC
            generalize its[k]?.getD default = y at *
            generalize its[k + 1]?.getD default = x at *
            generalize hasB r x.k.bits = q at *
            clear hcs hx hkl hcmp
            go_wp2
            (refine wp_region_ext (by kernel_rfl) (by kernel_rfl) ?_; (repeat (go_big_quiet_step (first | (go_at_call 27; with_reducible exact Calls.ext_same (HC _)) | (go_at_call 13; with_reducible exact Calls.ext_of (tab_at (Tab1.below (Tab1.below hT6 (by (repeat (first | with_reducible exact Below.refl _ _ | ((with_reducible refine Below.alloc1 ?_ ?_ _); (· first | omega | (simp; done) | (simp; omega))) | (with_reducible refine Below.drew ?_) | (with_reducible refine below_drewN' ?_ _) | ((with_reducible refine Below.setCell1 ?_ ?_ _); (· first | omega | (simp; done) | (simp; omega))) | ((with_reducible refine Below.after (by assumption) ?_ ?_); (· first | omega | (simp; done) | (simp; omega))))))) (Ext.b _)) _ x.n (Key.bits_lt _) hA1)) | (go_at_call 28; with_reducible exact Calls.ext_of (one_key x.k _)) | (go_at_call 14; with_reducible exact Calls.ext_of (tab_over (Tab1.below (Tab1.below hT6 (by (repeat (first | with_reducible exact Below.refl _ _ | ((with_reducible refine Below.alloc1 ?_ ?_ _); (· first | omega | (simp; done) | (simp; omega))) | (with_reducible refine Below.drew ?_) | (with_reducible refine below_drewN' ?_ _) | ((with_reducible refine Below.setCell1 ?_ ?_ _); (· first | omega | (simp; done) | (simp; omega))) | ((with_reducible refine Below.after (by assumption) ?_ ?_); (· first | omega | (simp; done) | (simp; omega))))))) (Ext.b _)) x.k.bits x.k.bits false false x.n (Key.bits_lt _) (Key.bits_lt _) hO2))))); refine wpQuiet_nil ?_; rintro w7 ⟨x7, hx7⟩; have hb7 := x7.b; rw [← hx7] at hb7; clear hx7 x7; obtain ⟨hc7, hf7⟩ := bcell hb7; (try simp only [World.heap_drewN, World.cell?_drewN, World.frozen?_drewN] at hc7 hf7); have hz7 := hb7.size; (try simp at hz7); (try have hy7_0 : w.heap.size < w7.heap.size := by omega); (try have hy7_1 : w.heap.size + 1 < w7.heap.size := by omega); (try have hy7_2 : w.heap.size + 2 < w7.heap.size := by omega); (try have hy7_3 : w.heap.size + 3 < w7.heap.size := by omega); (try have hx7_0 : w.heap.size ≤ w7.heap.size := by omega); (try have hx7_1 : w.heap.size + 1 ≤ w7.heap.size := by omega); (try have hx7_2 : w.heap.size + 2 ≤ w7.heap.size := by omega); (try have hu7_wr_0 : wr.heap.size < w7.heap.size := by omega); (try have hu7_wr_1 : wr.heap.size + 1 < w7.heap.size := by omega))
            cases q
            all_goals
              go_wp2_with (go_at_call 29; (with_reducible refine (has_is lo hi b1 b2 _ _ _ hl hh hH).mono ?_); rintro e w8 ⟨rfl, hb8⟩; obtain ⟨hc8, hf8⟩ := bcell hb8; (try simp only [World.heap_drewN, World.cell?_drewN, World.frozen?_drewN] at hc8 hf8); have hz8 := hb8.size; (try simp at hz8); (try have hy8_0 : w.heap.size < w8.heap.size := by omega); (try have hy8_1 : w.heap.size + 1 < w8.heap.size := by omega); (try have hy8_2 : w.heap.size + 2 < w8.heap.size := by omega); (try have hy8_3 : w.heap.size + 3 < w8.heap.size := by omega); (try have hx8_0 : w.heap.size ≤ w8.heap.size := by omega); (try have hx8_1 : w.heap.size + 1 ≤ w8.heap.size := by omega); (try have hx8_2 : w.heap.size + 2 ≤ w8.heap.size := by omega); (try have hu8_wr_0 : wr.heap.size < w8.heap.size := by omega); (try have hu8_wr_1 : wr.heap.size + 1 < w8.heap.size := by omega))
              go_roundw
              case rel => exact ⟨k + 1 + 1, by omega, by go_num, by rw [hS1.out]; rfl, by (repeat (first | with_reducible exact Below.refl _ _ | ((with_reducible refine Below.alloc1 ?_ ?_ _); (· first | omega | (simp; done) | (simp; omega))) | (with_reducible refine Below.drew ?_) | (with_reducible refine below_drewN' ?_ _) | ((with_reducible refine Below.setCell1 ?_ ?_ _); (· first | omega | (simp; done) | (simp; omega))) | ((with_reducible refine Below.after (by assumption) ?_ ?_); (· first | omega | (simp; done) | (simp; omega)))))⟩
              case measure => simp [intOf]; omega
        · obtain rfl : k = N := by omega
          have hO : Hid (overI its (canonS lo hi b1 b2) = overI (its.take k) r) := hid (by rw [HR.out, HF.out])
          go_wp2_with (go_at_call 14; (with_reducible refine (tab_over (Tab1.below hT6 (by (repeat (first | with_reducible exact Below.refl _ _ | ((with_reducible refine Below.alloc1 ?_ ?_ _); (· first | omega | (simp; done) | (simp; omega))) | (with_reducible refine Below.drew ?_) | (with_reducible refine below_drewN' ?_ _) | ((with_reducible refine Below.setCell1 ?_ ?_ _); (· first | omega | (simp; done) | (simp; omega))) | ((with_reducible refine Below.after (by assumption) ?_ ?_); (· first | omega | (simp; done) | (simp; omega))))))) lo hi b1 b2 _ hl hh hO).mono ?_); rintro e w8 ⟨rfl, hb8⟩; obtain ⟨hc8, hf8⟩ := bcell hb8; (try simp only [World.heap_drewN, World.cell?_drewN, World.frozen?_drewN] at hc8 hf8); have hz8 := hb8.size; (try simp at hz8); (try have hy8_0 : w.heap.size < w8.heap.size := by omega); (try have hy8_1 : w.heap.size + 1 < w8.heap.size := by omega); (try have hy8_2 : w.heap.size + 2 < w8.heap.size := by omega); (try have hy8_3 : w.heap.size + 3 < w8.heap.size := by omega); (try have hx8_0 : w.heap.size ≤ w8.heap.size := by omega); (try have hx8_1 : w.heap.size + 1 ≤ w8.heap.size := by omega); (try have hx8_2 : w.heap.size + 2 ≤ w8.heap.size := by omega))
          go_ret
          have hfin := (show Tab1 W0 _ T 64 its from (by first | assumption | exact Tab1.below (by assumption) (by (repeat (first | with_reducible exact Below.refl _ _ | ((with_reducible refine Below.alloc1 ?_ ?_ _); (· first | omega | (simp; done) | (simp; omega))) | (with_reducible refine Below.drew ?_) | (with_reducible refine below_drewN' ?_ _) | ((with_reducible refine Below.setCell1 ?_ ?_ _); (· first | omega | (simp; done) | (simp; omega))) | ((with_reducible refine Below.after (by assumption) ?_ ?_); (· first | omega | (simp; done) | (simp; omega)))))))).b
          exact ⟨rfl, by (repeat (first | with_reducible exact Below.refl _ _ | ((with_reducible refine Below.alloc1 ?_ ?_ _); (· first | omega | (simp; done) | (simp; omega))) | (with_reducible refine Below.drew ?_) | (with_reducible refine below_drewN' ?_ _) | ((with_reducible refine Below.setCell1 ?_ ?_ _); (· first | omega | (simp; done) | (simp; omega))) | ((with_reducible refine Below.after (by assumption) ?_ ?_); (· first | omega | (simp; done) | (simp; omega)))))⟩
end Go.Proofs.Ytnlaepogkepnhaa
