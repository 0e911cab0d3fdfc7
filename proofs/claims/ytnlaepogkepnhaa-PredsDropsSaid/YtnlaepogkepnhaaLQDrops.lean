/- The walk of PredsDrops. -/
import Derived.Test.YtnlaepogkepnhaaQH
namespace Go.Proofs.Ytnlaepogkepnhaa.Q
set_option linter.unusedVariables false
open Go.RowKit Fl

set_option maxRecDepth 100000 in
theorem predsDrops_walk (a : Option Addr) (c : Nat) (ops : List OpV) (m : Int) (key : Nat) (w : World) (ho : OAt w a ops) (_hm : -9223372036854775808 ≤ m ∧ m ≤ 9223372036854775807) (hkey : key < 2 ^ 64) :
    Calls Try.prog 8 #[.slice a ops.length c, .int .i64 m, .float .f64 key] w (Ret (.bool true) w) := by
  obtain ⟨n, hn⟩ : ∃ n, ops.length = n := ⟨_, rfl⟩
  have hmax : n ≤ 9223372036854775807 := by have := ho.len; unfold maxLen at this; omega
  have HO := hid ho
  rw [hn]
  have HN := hid hn
  clear ho hn
  go_enter Try.func8, Try.ntmps8
  go_wp2_with fail
  with_reducible refine (tab_new (Below.refl _ _) 64 (by omega) (by omega)).mono ?_
  rintro e w1 ⟨T, rfl, hT0⟩
  have hT1 : Tab1 w w1 T 64 [] := hT0
  clear hT0
  go_wp2_with (go_at_call 31; (with_reducible refine (alive_any _).mono ?_); rintro e w2 ⟨rfl, hb2⟩; obtain ⟨hc2, hf2⟩ := bcell hb2; (try simp only [World.heap_drewN, World.cell?_drewN, World.frozen?_drewN] at hc2 hf2); have hz2 := hb2.size; (try simp at hz2); (try have hy2_0 : w.heap.size < w2.heap.size := by omega); (try have hy2_1 : w.heap.size + 1 < w2.heap.size := by omega); (try have hy2_2 : w.heap.size + 2 < w2.heap.size := by omega); (try have hy2_3 : w.heap.size + 3 < w2.heap.size := by omega); (try have hx2_0 : w.heap.size ≤ w2.heap.size := by omega); (try have hx2_1 : w.heap.size + 1 ≤ w2.heap.size := by omega); (try have hx2_2 : w.heap.size + 2 ≤ w2.heap.size := by omega))
  go_loopw [25] (fun iv wr => ∃ i : Nat, i ≤ n ∧ iv = .int .i64 i ∧ Tab1 w wr T 64 (putAll [] 64 (ops.take i))) (fun iv _ => n - (intOf iv).toNat)
  case atStart => exact ⟨0, Nat.zero_le _, rfl, (by first | assumption | exact Tab1.below (by assumption) (by (repeat (first | with_reducible exact Below.refl _ _ | ((with_reducible refine Below.alloc1 ?_ ?_ _); (· first | omega | (simp; done) | (simp; omega))) | (with_reducible refine Below.drew ?_) | (with_reducible refine below_drewN' ?_ _) | ((with_reducible refine Below.setCell1 ?_ ?_ _); (· first | omega | (simp; done) | (simp; omega))) | ((with_reducible refine Below.after (by assumption) ?_ ?_); (· first | omega | (simp; done) | (simp; omega)))))))⟩
  case round =>
    obtain ⟨i, hi, rfl, hT⟩ := hrel
    clear hT1 hb2 hc2 hf2
    by_cases hlt : i < n
    · have hlt' : (i : Int) < (n : Int) := by omega
      have hil : i < ops.length := by rw [HN.out]; exact hlt
      have hx := hid (op_some hil)
      rcases HO.out.row with h0 | ⟨b, o, rfl, hb, hcs⟩
      · exfalso; rw [h0] at hil; simp at hil
      obtain ⟨d0, d1, d2, d3, d4, d5⟩ := hcs i hil
      have d0 := (hT.b.cell (p := ⟨b, _, none⟩) hb).trans d0
      have d1 := (hT.b.cell (p := ⟨b, _, none⟩) hb).trans d1
      have d2 := (hT.b.cell (p := ⟨b, _, none⟩) hb).trans d2
      have d3 := (hT.b.cell (p := ⟨b, _, none⟩) hb).trans d3
      have d4 := (hT.b.cell (p := ⟨b, _, none⟩) hb).trans d4
      have d5 := (hT.b.cell (p := ⟨b, _, none⟩) hb).trans d5
      obtain ⟨hk1, hk2⟩ := HO.out.lt i hil
      generalize ops[i]?.getD default = x at *
      have HX := hid (putAll_snoc [] 64 hx.out)
      clear hcs hil
      go_wp2_with (go_at_call 33; (with_reducible refine (tab_put (its' := (putI (putAll [] 64 (ops.take i)) 64 x.rg x.n).2) (by first | assumption | exact Tab1.below (by assumption) (by (repeat (first | with_reducible exact Below.refl _ _ | ((with_reducible refine Below.alloc1 ?_ ?_ _); (· first | omega | (simp; done) | (simp; omega))) | (with_reducible refine Below.drew ?_) | (with_reducible refine below_drewN' ?_ _) | ((with_reducible refine Below.setCell1 ?_ ?_ _); (· first | omega | (simp; done) | (simp; omega))) | ((with_reducible refine Below.after (by assumption) ?_ ?_); (· first | omega | (simp; done) | (simp; omega))))))) _ _ _ _ _ (putI (putAll [] 64 (ops.take i)) 64 x.rg x.n).1 hk1 hk2 (hid rfl)).mono ?_); rintro e w3 ⟨rfl, hT3⟩)
      go_roundw
      case rel => exact ⟨i + 1, by omega, by go_num, by rw [HX.out]; exact (by first | assumption | exact Tab1.below (by assumption) (by (repeat (first | with_reducible exact Below.refl _ _ | ((with_reducible refine Below.alloc1 ?_ ?_ _); (· first | omega | (simp; done) | (simp; omega))) | (with_reducible refine Below.drew ?_) | (with_reducible refine below_drewN' ?_ _) | ((with_reducible refine Below.setCell1 ?_ ?_ _); (· first | omega | (simp; done) | (simp; omega))) | ((with_reducible refine Below.after (by assumption) ?_ ?_); (· first | omega | (simp; done) | (simp; omega)))))))⟩
      case measure => simp [intOf]; omega
    · obtain rfl : i = n := by omega
      have hT : Tab1 w wr T 64 (putAll [] 64 ops) := by rw [← HN.out, List.take_length] at hT; exact hT
      generalize putAll [] 64 ops = its at *
      clear HO HN
      go_wp2_with (go_at_call 34; (with_reducible refine (tab_all (by first | assumption | exact Tab1.below (by assumption) (by (repeat (first | with_reducible exact Below.refl _ _ | ((with_reducible refine Below.alloc1 ?_ ?_ _); (· first | omega | (simp; done) | (simp; omega))) | (with_reducible refine Below.drew ?_) | (with_reducible refine below_drewN' ?_ _) | ((with_reducible refine Below.setCell1 ?_ ?_ _); (· first | omega | (simp; done) | (simp; omega))) | ((with_reducible refine Below.after (by assumption) ?_ ?_); (· first | omega | (simp; done) | (simp; omega)))))))).mono ?_); rintro e w4 ⟨a4, c4, rfl, hr4, hb4⟩)
      with_reducible refine (tab_drop_row (w1 := wr) (its := its) (its' := kept m its) (xs := its) (by assumption) (by (repeat (first | with_reducible exact Below.refl _ _ | ((with_reducible refine Below.alloc1 ?_ ?_ _); (· first | omega | (simp; done) | (simp; omega))) | (with_reducible refine Below.drew ?_) | (with_reducible refine below_drewN' ?_ _) | ((with_reducible refine Below.setCell1 ?_ ?_ _); (· first | omega | (simp; done) | (simp; omega))) | ((with_reducible refine Below.after (by assumption) ?_ ?_); (· first | omega | (simp; done) | (simp; omega)))))) _ ((its.length : Int) - (kept m its).length) _ _ _ (by assumption) (hid rfl) (hid rfl)).mono ?_
      rintro e w5 ⟨rfl, hT5, hr5⟩
      have HA := hid (fun h0 => own_at hr5 rfl h0)
      have HS := hid (fun t x (hx : its[t]? = some x) => kept_snoc m hx)
      have HM := hid (fun t x (hx : its[t]? = some x) => at_kept_snoc m hx key)
      have hle := kept_length_le m its
      have hl64 : its.length ≤ 64 := by have := hT.le; omega
      obtain ⟨N, hN⟩ : ∃ N, its.length = N := ⟨_, rfl⟩
      have HN := hid hN
      rw [hN] at HA hl64 hle
      have HF : Hid (its.take N = its) := hid (by rw [← hN]; exact List.take_length)
      clear hr4 hr5 hT hb4
      rw [hN]
      clear hN
      go_wp2
      go_loopw [43, 12, 13] (fun iv lv mv w6 => ∃ k l : Nat, k ≤ N ∧ l ≤ k ∧ iv = .int .i64 k ∧ lv = .int .i64 l ∧ mv = .int .i64 (atI (kept m (its.take k)) key) ∧ Hid (l = (kept m (its.take k)).length) ∧ Below w5.heap.size w5 w6) (fun iv _ _ _ => N - (intOf iv).toNat)
      case atStart => exact ⟨0, 0, Nat.zero_le _, Nat.le_refl _, rfl, rfl, rfl, hid rfl, by (repeat (first | with_reducible exact Below.refl _ _ | ((with_reducible refine Below.alloc1 ?_ ?_ _); (· first | omega | (simp; done) | (simp; omega))) | (with_reducible refine Below.drew ?_) | (with_reducible refine below_drewN' ?_ _) | ((with_reducible refine Below.setCell1 ?_ ?_ _); (· first | omega | (simp; done) | (simp; omega))) | ((with_reducible refine Below.after (by assumption) ?_ ?_); (· first | omega | (simp; done) | (simp; omega)))))⟩
      case round =>
        obtain ⟨k, l, hk, hlk, rfl, rfl, rfl, hl, hb6⟩ := hrel
        have hT6 := hT5.below hb6
        have hz6 := hb6.size
        by_cases hlt : k < N
        · have hlt' : (k : Int) < (N : Int) := by omega
          obtain ⟨g, rfl, hg, hcs⟩ := HA.out (by omega)
          have hkl : k < its.length := by rw [HN.out]; exact hlt
          obtain ⟨d0, d1, d2, d3, d4⟩ := hcs k hlt
          have d0 := (hb6.cell (p := ⟨g, _, none⟩) hg).trans d0
          have d1 := (hb6.cell (p := ⟨g, _, none⟩) hg).trans d1
          have d2 := (hb6.cell (p := ⟨g, _, none⟩) hg).trans d2
          have d3 := (hb6.cell (p := ⟨g, _, none⟩) hg).trans d3
          have d4 := (hb6.cell (p := ⟨g, _, none⟩) hg).trans d4
          have hx := it_some hkl
          generalize its[k]?.getD default = x at *
          have hs := HS.out k x hx
          have hv := HM.out k x hx
          clear hcs hx hkl
          generalize hcur : atI (kept m (its.take k)) key = cur at *
          by_cases hgt : m < x.n
          · rw [if_neg (by simp; omega)] at hs
            have hs' := hid (congrArg List.length hs)
            clear hs
            cases hh : hasB x.k.rg key
            · rw [if_neg (by rw [hh]; simp)] at hv
              have hv' := hid hv
              have hhas := fun W => has_is x.k.lo.bits x.k.hi.bits false false key false W (Key.bits_lt _) (Key.bits_lt _) (hid (by rw [canonS_canon _ _ x.k.le]; exact hh))
              clear hv hh
              go_wp2_with (go_at_call 29; (with_reducible refine (hhas _).mono ?_); rintro e w7 ⟨rfl, hb7⟩; obtain ⟨hc7, hf7⟩ := bcell hb7; (try simp only [World.heap_drewN, World.cell?_drewN, World.frozen?_drewN] at hc7 hf7); have hz7 := hb7.size; (try simp at hz7); (try have hy7_0 : w.heap.size < w7.heap.size := by omega); (try have hy7_1 : w.heap.size + 1 < w7.heap.size := by omega); (try have hy7_2 : w.heap.size + 2 < w7.heap.size := by omega); (try have hy7_3 : w.heap.size + 3 < w7.heap.size := by omega); (try have hx7_0 : w.heap.size ≤ w7.heap.size := by omega); (try have hx7_1 : w.heap.size + 1 ≤ w7.heap.size := by omega); (try have hx7_2 : w.heap.size + 2 ≤ w7.heap.size := by omega))
              go_roundw
              case rel => exact ⟨k + 1, l + 1, by omega, by omega, by go_num, by go_num, by rw [hv'.out], hid (by rw [hs'.out, List.length_append, ← hl.out]; rfl), by (repeat (first | with_reducible exact Below.refl _ _ | ((with_reducible refine Below.alloc1 ?_ ?_ _); (· first | omega | (simp; done) | (simp; omega))) | (with_reducible refine Below.drew ?_) | (with_reducible refine below_drewN' ?_ _) | ((with_reducible refine Below.setCell1 ?_ ?_ _); (· first | omega | (simp; done) | (simp; omega))) | ((with_reducible refine Below.after (by assumption) ?_ ?_); (· first | omega | (simp; done) | (simp; omega)))))⟩
              case measure => simp [intOf]; omega
            · rw [if_pos ⟨hgt, hh⟩] at hv
              have hv' := hid hv
              have hhas := fun W => has_is x.k.lo.bits x.k.hi.bits false false key true W (Key.bits_lt _) (Key.bits_lt _) (hid (by rw [canonS_canon _ _ x.k.le]; exact hh))
              clear hv hh
              go_wp2_with (go_at_call 29; (with_reducible refine (hhas _).mono ?_); rintro e w7 ⟨rfl, hb7⟩; obtain ⟨hc7, hf7⟩ := bcell hb7; (try simp only [World.heap_drewN, World.cell?_drewN, World.frozen?_drewN] at hc7 hf7); have hz7 := hb7.size; (try simp at hz7); (try have hy7_0 : w.heap.size < w7.heap.size := by omega); (try have hy7_1 : w.heap.size + 1 < w7.heap.size := by omega); (try have hy7_2 : w.heap.size + 2 < w7.heap.size := by omega); (try have hy7_3 : w.heap.size + 3 < w7.heap.size := by omega); (try have hx7_0 : w.heap.size ≤ w7.heap.size := by omega); (try have hx7_1 : w.heap.size + 1 ≤ w7.heap.size := by omega); (try have hx7_2 : w.heap.size + 2 ≤ w7.heap.size := by omega))
              go_roundw
              case rel => exact ⟨k + 1, l + 1, by omega, by omega, by go_num, by go_num, by rw [hv'.out], hid (by rw [hs'.out, List.length_append, ← hl.out]; rfl), by (repeat (first | with_reducible exact Below.refl _ _ | ((with_reducible refine Below.alloc1 ?_ ?_ _); (· first | omega | (simp; done) | (simp; omega))) | (with_reducible refine Below.drew ?_) | (with_reducible refine below_drewN' ?_ _) | ((with_reducible refine Below.setCell1 ?_ ?_ _); (· first | omega | (simp; done) | (simp; omega))) | ((with_reducible refine Below.after (by assumption) ?_ ?_); (· first | omega | (simp; done) | (simp; omega)))))⟩
              case measure => simp [intOf]; omega
          · rw [if_pos (by simp; omega)] at hs
            rw [if_neg (fun h => hgt h.1)] at hv
            have hs' := hid (congrArg List.length hs)
            have hv' := hid hv
            have hgt' : x.n ≤ m := by omega
            clear hv hs
            go_wp2
            go_roundw
            case rel => exact ⟨k + 1, l, by omega, by omega, by go_num, rfl, by rw [hv'.out], hid (by rw [hs'.out, List.append_nil, ← hl.out]), by (repeat (first | with_reducible exact Below.refl _ _ | ((with_reducible refine Below.alloc1 ?_ ?_ _); (· first | omega | (simp; done) | (simp; omega))) | (with_reducible refine Below.drew ?_) | (with_reducible refine below_drewN' ?_ _) | ((with_reducible refine Below.setCell1 ?_ ?_ _); (· first | omega | (simp; done) | (simp; omega))) | ((with_reducible refine Below.after (by assumption) ?_ ?_); (· first | omega | (simp; done) | (simp; omega)))))⟩
            case measure => simp [intOf]; omega
        · obtain rfl : k = N := by omega
          have hl' : l = (kept m its).length := by rw [hl.out, HF.out]
          have hL : Hid (((kept m its).length : Int) = (l : Int)) := hid (by rw [hl'])
          rw [HF.out]
          have hV : Hid (atI (kept m its) key = atI (kept m its) key) := hid rfl
          rw [← hl'] at hle ⊢
          clear hl'
          generalize hcur : atI (kept m its) key = cur at *
          have hV2 := hid hcur
          clear hcur hV
          go_wp2_with (first | (go_at_call 35; (with_reducible refine (tab_len (Tab1.below hT6 (by (repeat (first | with_reducible exact Below.refl _ _ | ((with_reducible refine Below.alloc1 ?_ ?_ _); (· first | omega | (simp; done) | (simp; omega))) | (with_reducible refine Below.drew ?_) | (with_reducible refine below_drewN' ?_ _) | ((with_reducible refine Below.setCell1 ?_ ?_ _); (· first | omega | (simp; done) | (simp; omega))) | ((with_reducible refine Below.after (by assumption) ?_ ?_); (· first | omega | (simp; done) | (simp; omega))))))) l hL).mono ?_); rintro e w8 ⟨rfl, hb8⟩; obtain ⟨hc8, hf8⟩ := bcell hb8; (try simp only [World.heap_drewN, World.cell?_drewN, World.frozen?_drewN] at hc8 hf8); have hz8 := hb8.size; (try simp at hz8); (try have hy8_0 : w.heap.size < w8.heap.size := by omega); (try have hy8_1 : w.heap.size + 1 < w8.heap.size := by omega); (try have hy8_2 : w.heap.size + 2 < w8.heap.size := by omega); (try have hy8_3 : w.heap.size + 3 < w8.heap.size := by omega); (try have hx8_0 : w.heap.size ≤ w8.heap.size := by omega); (try have hx8_1 : w.heap.size + 1 ≤ w8.heap.size := by omega); (try have hx8_2 : w.heap.size + 2 ≤ w8.heap.size := by omega)) | (go_at_call 32; (with_reducible refine (tab_at (Tab1.below hT6 (by (repeat (first | with_reducible exact Below.refl _ _ | ((with_reducible refine Below.alloc1 ?_ ?_ _); (· first | omega | (simp; done) | (simp; omega))) | (with_reducible refine Below.drew ?_) | (with_reducible refine below_drewN' ?_ _) | ((with_reducible refine Below.setCell1 ?_ ?_ _); (· first | omega | (simp; done) | (simp; omega))) | ((with_reducible refine Below.after (by assumption) ?_ ?_); (· first | omega | (simp; done) | (simp; omega))))))) key cur hkey hV2).mono ?_); rintro e w9 ⟨rfl, hb9⟩; obtain ⟨hc9, hf9⟩ := bcell hb9; (try simp only [World.heap_drewN, World.cell?_drewN, World.frozen?_drewN] at hc9 hf9); have hz9 := hb9.size; (try simp at hz9); (try have hy9_0 : w.heap.size < w9.heap.size := by omega); (try have hy9_1 : w.heap.size + 1 < w9.heap.size := by omega); (try have hy9_2 : w.heap.size + 2 < w9.heap.size := by omega); (try have hy9_3 : w.heap.size + 3 < w9.heap.size := by omega); (try have hx9_0 : w.heap.size ≤ w9.heap.size := by omega); (try have hx9_1 : w.heap.size + 1 ≤ w9.heap.size := by omega); (try have hx9_2 : w.heap.size + 2 ≤ w9.heap.size := by omega)))
          go_ret
          exact ⟨rfl, (show Tab1 w _ T 64 (kept m its) from (by first | assumption | exact Tab1.below (by assumption) (by (repeat (first | with_reducible exact Below.refl _ _ | ((with_reducible refine Below.alloc1 ?_ ?_ _); (· first | omega | (simp; done) | (simp; omega))) | (with_reducible refine Below.drew ?_) | (with_reducible refine below_drewN' ?_ _) | ((with_reducible refine Below.setCell1 ?_ ?_ _); (· first | omega | (simp; done) | (simp; omega))) | ((with_reducible refine Below.after (by assumption) ?_ ?_); (· first | omega | (simp; done) | (simp; omega)))))))).b⟩
end Go.Proofs.Ytnlaepogkepnhaa.Q
