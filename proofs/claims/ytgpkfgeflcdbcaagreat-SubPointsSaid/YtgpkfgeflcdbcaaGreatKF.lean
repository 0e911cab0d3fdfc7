/- Searches over rows: NaN among numbers, an empty one among spans; rows of spans compared. -/
import Derived.Test.YtgpkfgeflcdbcaaGreatKS
import Derived.Test.YtgpkfgeflcdbcaaGreatNN
import Derived.Test.YtgpkfgeflcdbcaaGreatMR
namespace Go.Proofs.YtgpkfgeflcdbcaaGreat.K
set_option linter.unusedVariables false
open Go.RowKit Fl

theorem ixNan_any (a : Option Addr) (c n : Nat) (xs : List Nat) (w : World) (hn : xs.length = n) (h : FAt w a xs) :
    Calls Tryz.prog 96 #[.slice a n c, .func (.func 62) #[] #[]] w fun e w' => e = .returned (.int .i64 (idxB isNaN xs)) ∧ w = w' := by
  obtain ⟨hr, hl, hm⟩ := h
  unfold maxLen at hm
  rcases hr with rfl | ⟨b, o, rfl, hb, hc⟩
  · simp only [List.length_nil] at hn
    subst hn
    have e : idxB isNaN [] = -1 := rfl
    rw [e]
    clear hl e
    go_enter Tryz.func96, Tryz.ntmps96
    go_wp2
    go_loop [8] (fun i => i = .int .i64 0) (fun _ => 0)
    case atStart => rfl
    case round =>
      subst hrel
      go_wp2
      go_ret
      exact ⟨rfl, rfl⟩
  · have HC := hid hc; have HN := hid hn
    rw [hn] at hm
    clear hc hn hl
    go_enter Tryz.func96, Tryz.ntmps96
    go_wp2
    go_loop [8] (fun i => ∃ k : Nat, k ≤ n ∧ i = .int .i64 k ∧ Hid (∀ j : Nat, j < k → ∀ y, xs[j]? = some y → isNaN y = false)) (fun i => n - (intOf i).toNat)
    case atStart => exact ⟨0, Nat.zero_le _, rfl, hid fun j hj => absurd hj (Nat.not_lt_zero _)⟩
    case round =>
      obtain ⟨k, hk, rfl, HR⟩ := hrel
      by_cases hlt : k < n
      · have hcell := HC.out k (by rw [HN.out]; exact hlt)
        have hlt' : (k : Int) < (n : Int) := by omega
        have hkx := hid (fl_some (xs := xs) (k := k) (by rw [HN.out]; exact hlt))
        generalize xs[k]?.getD 0 = x at *
        cases hp : isNaN x
        · go_wp2
          go_round
          case rel => exact ⟨k + 1, by omega, by go_num, hid fun j hj y hy => by
              by_cases h : j < k
              · exact HR.out j h y hy
              · obtain rfl : j = k := by omega
                rw [hkx.out] at hy; cases hy; exact hp⟩
          case measure => simp [intOf]; omega
        · go_wp2
          go_ret
          exact ⟨ret_int (by rw [idxB_some hkx.out hp HR.out]), rfl⟩
      · obtain rfl : k = n := by omega
        go_wp2
        go_ret
        refine ⟨ret_int ?_, rfl⟩
        rw [idxB_none]
        intro i x hx
        refine HR.out i ?_ x hx
        have := (List.getElem?_eq_some_iff.1 hx).1
        have := HN.out
        omega
theorem hasNan_any (a : Option Addr) (c n : Nat) (xs : List Nat) (v : Bool) (w : World) (hn : xs.length = n) (h : FAt w a xs) (hv : xs.any isNaN = v) :
    Calls Tryz.prog 61 #[.slice a n c, .func (.func 62) #[] #[]] w (Ret (.bool v) w) := by
  have H := ixNan_any a c n xs w hn h
  rw [← idxB_any] at hv
  generalize idxB isNaN xs = r at *
  have hn' := hid hn
  clear hn
  go_enter Tryz.func61, Tryz.ntmps61
  go_wp2_with (go_at_call 96; (with_reducible refine (H).mono ?_); rintro e w' ⟨rfl, rfl⟩)
  go_ret
  exact ⟨ret_bool (by rw [← hv]), by (repeat (first | with_reducible exact Below.refl _ _ | ((with_reducible refine Below.alloc1 ?_ ?_ _); (· first | omega | (simp; done) | (simp; omega))) | (with_reducible refine Below.drew ?_) | (with_reducible refine below_drewN' ?_ _) | ((with_reducible refine Below.setCell1 ?_ ?_ _); (· first | omega | (simp; done) | (simp; omega))) | ((with_reducible refine Below.after (by assumption) ?_ ?_); (· first | omega | (simp; done) | (simp; omega)))))⟩

theorem ixEmpty_any (a : Option Addr) (c n : Nat) (ss : List SpanV) (w : World) (hn : ss.length = n) (h : SAt w a ss) :
    Calls Tryz.prog 80 #[.slice a n c, .func (.func 63) #[] #[]] w (Ret (.int .i64 (idxB (fun s => s.rg.isNone) ss)) w) := by
  obtain ⟨hr, hl, hm⟩ := h
  unfold maxLen at hm
  rcases hr with rfl | ⟨b, o, rfl, hb, hc⟩
  · simp only [List.length_nil] at hn
    subst hn
    have e : idxB (fun s : SpanV => s.rg.isNone) [] = -1 := rfl
    rw [e]
    clear hl e
    go_enter Tryz.func80, Tryz.ntmps80
    go_wp2
    go_loop [8] (fun i => i = .int .i64 0) (fun _ => 0)
    case atStart => rfl
    case round =>
      subst hrel
      go_wp2
      go_ret
      exact ⟨rfl, Below.refl _ _⟩
  · have HC := hid hc; have HN := hid hn; have HL := hid hl
    rw [hn] at hm
    clear hc hn hl
    go_enter Tryz.func80, Tryz.ntmps80
    go_wp2
    go_loopw [8] (fun i wr => ∃ k : Nat, k ≤ n ∧ i = .int .i64 k ∧ Hid (∀ j : Nat, j < k → ∀ y, ss[j]? = some y → y.rg.isNone = false) ∧ Below w.heap.size w wr) (fun i _ => n - (intOf i).toNat)
    case atStart => exact ⟨0, Nat.zero_le _, rfl, hid fun j hj => absurd hj (Nat.not_lt_zero _), Below.refl _ _⟩
    case round =>
      obtain ⟨k, hk, rfl, HR, hbw⟩ := hrel
      by_cases hlt : k < n
      · obtain ⟨c0, c1, c2, c3⟩ := HC.out k (by rw [HN.out]; exact hlt)
        obtain ⟨l1, l2⟩ := HL.out k (by rw [HN.out]; exact hlt)
        have hlt' : (k : Int) < (n : Int) := by omega
        have hkx := hid (sp_some (ss := ss) (k := k) (by rw [HN.out]; exact hlt))
        have hsz := hbw.size
        have kk := fun j => hbw.cell (p := ⟨b, j, none⟩) hb
        have d0 := (kk _).trans c0; have d1 := (kk _).trans c1; have d2 := (kk _).trans c2; have d3 := (kk _).trans c3
        clear c0 c1 c2 c3 kk
        generalize ss[k]?.getD default = s at *
        have H := fun v hv W => empty_is s.lo s.hi s.a s.b v W l1 l2 hv
        cases hp : s.rg.isNone
        · have H1 := fun W => H false (hid hp) W
          have HP := hid hp
          clear hp H
          go_wp2_with (go_at_call 63; (with_reducible refine (H1 _).mono ?_); rintro e w1 ⟨rfl, hb1⟩; obtain ⟨hc1, hf1⟩ := bcell hb1; (try simp only [World.heap_drewN, World.cell?_drewN, World.frozen?_drewN] at hc1 hf1); have hz1 := hb1.size; (try simp at hz1); (try have hy1_0 : w.heap.size < w1.heap.size := by omega); (try have hy1_1 : w.heap.size + 1 < w1.heap.size := by omega); (try have hy1_2 : w.heap.size + 2 < w1.heap.size := by omega); (try have hy1_3 : w.heap.size + 3 < w1.heap.size := by omega); (try have hx1_0 : w.heap.size ≤ w1.heap.size := by omega); (try have hx1_1 : w.heap.size + 1 ≤ w1.heap.size := by omega); (try have hx1_2 : w.heap.size + 2 ≤ w1.heap.size := by omega))
          go_roundw
          case rel => exact ⟨k + 1, by omega, by go_num, hid fun j hj y hy => by
              by_cases h : j < k
              · exact HR.out j h y hy
              · obtain rfl : j = k := by omega
                rw [hkx.out] at hy; cases hy; exact HP.out, by (repeat (first | with_reducible exact Below.refl _ _ | ((with_reducible refine Below.alloc1 ?_ ?_ _); (· first | omega | (simp; done) | (simp; omega))) | (with_reducible refine Below.drew ?_) | (with_reducible refine below_drewN' ?_ _) | ((with_reducible refine Below.setCell1 ?_ ?_ _); (· first | omega | (simp; done) | (simp; omega))) | ((with_reducible refine Below.after (by assumption) ?_ ?_); (· first | omega | (simp; done) | (simp; omega)))))⟩
          case measure => simp [intOf]; omega
        · have H1 := fun W => H true (hid hp) W
          have HP := hid hp
          clear hp H
          go_wp2_with (go_at_call 63; (with_reducible refine (H1 _).mono ?_); rintro e w1 ⟨rfl, hb1⟩; obtain ⟨hc1, hf1⟩ := bcell hb1; (try simp only [World.heap_drewN, World.cell?_drewN, World.frozen?_drewN] at hc1 hf1); have hz1 := hb1.size; (try simp at hz1); (try have hy1_0 : w.heap.size < w1.heap.size := by omega); (try have hy1_1 : w.heap.size + 1 < w1.heap.size := by omega); (try have hy1_2 : w.heap.size + 2 < w1.heap.size := by omega); (try have hy1_3 : w.heap.size + 3 < w1.heap.size := by omega); (try have hx1_0 : w.heap.size ≤ w1.heap.size := by omega); (try have hx1_1 : w.heap.size + 1 ≤ w1.heap.size := by omega); (try have hx1_2 : w.heap.size + 2 ≤ w1.heap.size := by omega))
          go_ret
          exact ⟨ret_int (by rw [idxB_some (p := fun s : SpanV => s.rg.isNone) hkx.out HP.out HR.out]), by (repeat (first | with_reducible exact Below.refl _ _ | ((with_reducible refine Below.alloc1 ?_ ?_ _); (· first | omega | (simp; done) | (simp; omega))) | (with_reducible refine Below.drew ?_) | (with_reducible refine below_drewN' ?_ _) | ((with_reducible refine Below.setCell1 ?_ ?_ _); (· first | omega | (simp; done) | (simp; omega))) | ((with_reducible refine Below.after (by assumption) ?_ ?_); (· first | omega | (simp; done) | (simp; omega)))))⟩
      · obtain rfl : k = n := by omega
        go_wp2
        go_ret
        refine ⟨ret_int ?_, by (repeat (first | with_reducible exact Below.refl _ _ | ((with_reducible refine Below.alloc1 ?_ ?_ _); (· first | omega | (simp; done) | (simp; omega))) | (with_reducible refine Below.drew ?_) | (with_reducible refine below_drewN' ?_ _) | ((with_reducible refine Below.setCell1 ?_ ?_ _); (· first | omega | (simp; done) | (simp; omega))) | ((with_reducible refine Below.after (by assumption) ?_ ?_); (· first | omega | (simp; done) | (simp; omega)))))⟩
        rw [idxB_none]
        intro i x hx
        refine HR.out i ?_ x hx
        have := (List.getElem?_eq_some_iff.1 hx).1
        have := HN.out
        omega
theorem hasEmpty_any (a : Option Addr) (c n : Nat) (ss : List SpanV) (v : Bool) (w : World) (hn : ss.length = n) (h : SAt w a ss) (hv : (ss.any fun s => s.rg.isNone) = v) :
    Calls Tryz.prog 31 #[.slice a n c, .func (.func 63) #[] #[]] w (Ret (.bool v) w) := by
  have H := ixEmpty_any a c n ss w hn h
  rw [← idxB_any] at hv
  generalize idxB (fun s : SpanV => s.rg.isNone) ss = r at *
  have hn' := hid hn
  clear hn
  go_enter Tryz.func31, Tryz.ntmps31
  go_wp2_with (go_at_call 80; (with_reducible refine (H).mono ?_); rintro e w1 ⟨rfl, hb1⟩; obtain ⟨hc1, hf1⟩ := bcell hb1; (try simp only [World.heap_drewN, World.cell?_drewN, World.frozen?_drewN] at hc1 hf1); have hz1 := hb1.size; (try simp at hz1); (try have hy1_0 : w.heap.size < w1.heap.size := by omega); (try have hy1_1 : w.heap.size + 1 < w1.heap.size := by omega); (try have hy1_2 : w.heap.size + 2 < w1.heap.size := by omega); (try have hy1_3 : w.heap.size + 3 < w1.heap.size := by omega); (try have hx1_0 : w.heap.size ≤ w1.heap.size := by omega); (try have hx1_1 : w.heap.size + 1 ≤ w1.heap.size := by omega); (try have hx1_2 : w.heap.size + 2 ≤ w1.heap.size := by omega))
  go_ret
  exact ⟨ret_bool (by rw [← hv]), by (repeat (first | with_reducible exact Below.refl _ _ | ((with_reducible refine Below.alloc1 ?_ ?_ _); (· first | omega | (simp; done) | (simp; omega))) | (with_reducible refine Below.drew ?_) | (with_reducible refine below_drewN' ?_ _) | ((with_reducible refine Below.setCell1 ?_ ?_ _); (· first | omega | (simp; done) | (simp; omega))) | ((with_reducible refine Below.after (by assumption) ?_ ?_); (· first | omega | (simp; done) | (simp; omega)))))⟩
end Go.Proofs.YtgpkfgeflcdbcaaGreat.K
