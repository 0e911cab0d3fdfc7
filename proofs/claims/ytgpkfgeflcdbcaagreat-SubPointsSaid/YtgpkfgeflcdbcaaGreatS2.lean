/- The functions over rows of spans; which keys a submission reads and writes. -/
import Derived.Test.YtgpkfgeflcdbcaaGreatMR
namespace Go.Proofs.YtgpkfgeflcdbcaaGreat
set_option linter.unusedVariables false
open Go.RowKit Fl

theorem covers1_any (lo hi : Nat) (a b : Bool) (B key : Nat) (w : World) (hl : lo < 2 ^ 64) (hh : hi < 2 ^ 64) (hB : B < w.heap.size) (hk : w.cell? ⟨B, 0, none⟩ = some (.float .f64 key)) :
    Calls Tryz.prog 100 #[.agg #[.float .f64 lo, .float .f64 hi, .bool a, .bool b], .pointer (some ⟨B, 0, none⟩)] w (Ret (.bool (hasB (canonS lo hi a b) key)) w) := by
  have H := fun W => has_is lo hi a b key _ W hl hh (hid rfl)
  generalize hasB (canonS lo hi a b) key = v at *
  have hBs : B < w.heap.size + 1 := by omega
  go_enter Tryz.func100, Tryz.ntmps100
  go_wp2_with (go_at_call 101; (with_reducible refine (H _).mono ?_); rintro e w1 ⟨rfl, hb1⟩; obtain ⟨hc1, hf1⟩ := bcell hb1; (try simp only [World.heap_drewN, World.cell?_drewN, World.frozen?_drewN] at hc1 hf1); have hz1 := hb1.size; (try simp at hz1); (try have hy1_0 : w.heap.size < w1.heap.size := by omega); (try have hy1_1 : w.heap.size + 1 < w1.heap.size := by omega); (try have hy1_2 : w.heap.size + 2 < w1.heap.size := by omega); (try have hy1_3 : w.heap.size + 3 < w1.heap.size := by omega); (try have hx1_0 : w.heap.size ≤ w1.heap.size := by omega); (try have hx1_1 : w.heap.size + 1 ≤ w1.heap.size := by omega); (try have hx1_2 : w.heap.size + 2 ≤ w1.heap.size := by omega))
  go_ret
  exact ⟨rfl, by (repeat (first | with_reducible exact Below.refl _ _ | ((with_reducible refine Below.alloc1 ?_ ?_ _); (· first | omega | (simp; done) | (simp; omega))) | (with_reducible refine Below.drew ?_) | (with_reducible refine below_drewN' ?_ _) | ((with_reducible refine Below.setCell1 ?_ ?_ _); (· first | omega | (simp; done) | (simp; omega))) | ((with_reducible refine Below.after (by assumption) ?_ ?_); (· first | omega | (simp; done) | (simp; omega)))))⟩

theorem slIndexFuncS_any (a : Option Addr) (c B key : Nat) (ss : List SpanV) (n : Nat) (w : World) (hn : ss.length = n) (h : SAt w a ss) (hB : B < w.heap.size) (hk : w.cell? ⟨B, 0, none⟩ = some (.float .f64 key)) :
    Calls Tryz.prog 80 #[.slice a n c, .func (.func 100) #[] #[.pointer (some ⟨B, 0, none⟩)]] w (Ret (.int .i64 (idxB (fun s => hasB s.rg key) ss)) w) := by
  obtain ⟨hr, hl, hm⟩ := h
  unfold maxLen at hm
  rcases hr with rfl | ⟨b, o, rfl, hb, hc⟩
  · simp only [List.length_nil] at hn
    subst hn
    have e : idxB (fun s : SpanV => hasB s.rg key) [] = -1 := rfl
    rw [e]
    clear hl e hk
    go_enter Tryz.func80, Tryz.ntmps80
    go_wp2
    go_loop [8] (fun i => i = .int .i64 0) (fun _ => 0)
    case atStart => rfl
    case round =>
      subst hrel
      go_wp2
      go_ret
      exact ⟨rfl, Below.refl _ _⟩
  · have HC := hid hc; have HN := hid hn; have HL := hid hl; have HK := hid hk
    rw [hn] at hm
    clear hc hn hl hk
    go_enter Tryz.func80, Tryz.ntmps80
    go_wp2
    go_loopw [8] (fun i wr => ∃ k : Nat, k ≤ n ∧ i = .int .i64 k ∧ Hid (∀ j : Nat, j < k → ∀ y, ss[j]? = some y → hasB y.rg key = false) ∧ Below w.heap.size w wr) (fun i _ => n - (intOf i).toNat)
    case atStart => exact ⟨0, Nat.zero_le _, rfl, hid fun j hj => absurd hj (Nat.not_lt_zero _), Below.refl _ _⟩
    case round =>
      obtain ⟨k, hk, rfl, HR, hbw⟩ := hrel
      by_cases hlt : k < n
      · obtain ⟨c0, c1, c2, c3⟩ := HC.out k (by rw [HN.out]; exact hlt)
        obtain ⟨l1, l2⟩ := HL.out k (by rw [HN.out]; exact hlt)
        have hlt' : (k : Int) < (n : Int) := by omega
        have hkx := hid (sp_some (ss := ss) (k := k) (by rw [HN.out]; exact hlt))
        have hsz := hbw.size
        have kk := fun j => hbw.cell (p := ⟨b, j, none⟩) hb
        have d0 := (kk _).trans c0; have d1 := (kk _).trans c1; have d2 := (kk _).trans c2; have d3 := (kk _).trans c3
        have dk := (hbw.cell (p := ⟨B, 0, none⟩) hB).trans HK.out
        clear c0 c1 c2 c3 kk
        generalize hs : ss[k]?.getD default = s at *
        have hBw : B < wr.heap.size := by omega
        have H := covers1_any s.lo s.hi s.a s.b B key wr l1 l2 hBw dk
        clear dk hs
        cases hp : hasB (canonS s.lo s.hi s.a s.b) key
        · rw [hp] at H
          have HP := hid hp
          clear hp
          go_wp2_with (go_at_call 100; (with_reducible refine (H).mono ?_); rintro e w1 ⟨rfl, hb1⟩; obtain ⟨hc1, hf1⟩ := bcell hb1; (try simp only [World.heap_drewN, World.cell?_drewN, World.frozen?_drewN] at hc1 hf1); have hz1 := hb1.size; (try simp at hz1); (try have hy1_0 : w.heap.size < w1.heap.size := by omega); (try have hy1_1 : w.heap.size + 1 < w1.heap.size := by omega); (try have hy1_2 : w.heap.size + 2 < w1.heap.size := by omega); (try have hy1_3 : w.heap.size + 3 < w1.heap.size := by omega); (try have hx1_0 : w.heap.size ≤ w1.heap.size := by omega); (try have hx1_1 : w.heap.size + 1 ≤ w1.heap.size := by omega); (try have hx1_2 : w.heap.size + 2 ≤ w1.heap.size := by omega))
          go_roundw
          case rel => exact ⟨k + 1, by omega, by go_num, hid fun j hj y hy => by
              by_cases h : j < k
              · exact HR.out j h y hy
              · obtain rfl : j = k := by omega
                rw [hkx.out] at hy; cases hy; exact HP.out, by (repeat (first | with_reducible exact Below.refl _ _ | ((with_reducible refine Below.alloc1 ?_ ?_ _); (· first | omega | (simp; done) | (simp; omega))) | (with_reducible refine Below.drew ?_) | (with_reducible refine below_drewN' ?_ _) | ((with_reducible refine Below.setCell1 ?_ ?_ _); (· first | omega | (simp; done) | (simp; omega))) | ((with_reducible refine Below.after (by assumption) ?_ ?_); (· first | omega | (simp; done) | (simp; omega)))))⟩
          case measure => simp [intOf]; omega
        · rw [hp] at H
          have HP := hid hp
          clear hp
          go_wp2_with (go_at_call 100; (with_reducible refine (H).mono ?_); rintro e w1 ⟨rfl, hb1⟩; obtain ⟨hc1, hf1⟩ := bcell hb1; (try simp only [World.heap_drewN, World.cell?_drewN, World.frozen?_drewN] at hc1 hf1); have hz1 := hb1.size; (try simp at hz1); (try have hy1_0 : w.heap.size < w1.heap.size := by omega); (try have hy1_1 : w.heap.size + 1 < w1.heap.size := by omega); (try have hy1_2 : w.heap.size + 2 < w1.heap.size := by omega); (try have hy1_3 : w.heap.size + 3 < w1.heap.size := by omega); (try have hx1_0 : w.heap.size ≤ w1.heap.size := by omega); (try have hx1_1 : w.heap.size + 1 ≤ w1.heap.size := by omega); (try have hx1_2 : w.heap.size + 2 ≤ w1.heap.size := by omega))
          go_ret
          exact ⟨ret_int (by rw [idxB_some (p := fun s => hasB s.rg key) hkx.out HP.out HR.out]), by (repeat (first | with_reducible exact Below.refl _ _ | ((with_reducible refine Below.alloc1 ?_ ?_ _); (· first | omega | (simp; done) | (simp; omega))) | (with_reducible refine Below.drew ?_) | (with_reducible refine below_drewN' ?_ _) | ((with_reducible refine Below.setCell1 ?_ ?_ _); (· first | omega | (simp; done) | (simp; omega))) | ((with_reducible refine Below.after (by assumption) ?_ ?_); (· first | omega | (simp; done) | (simp; omega)))))⟩
      · obtain rfl : k = n := by omega
        go_wp2
        go_ret
        refine ⟨ret_int ?_, by (repeat (first | with_reducible exact Below.refl _ _ | ((with_reducible refine Below.alloc1 ?_ ?_ _); (· first | omega | (simp; done) | (simp; omega))) | (with_reducible refine Below.drew ?_) | (with_reducible refine below_drewN' ?_ _) | ((with_reducible refine Below.setCell1 ?_ ?_ _); (· first | omega | (simp; done) | (simp; omega))) | ((with_reducible refine Below.after (by assumption) ?_ ?_); (· first | omega | (simp; done) | (simp; omega)))))⟩
        rw [idxB_none]
        intro i x hx
        refine HR.out i ?_ x hx
        have := (List.getElem?_eq_some_iff.1 hx).1
        have := HN.out
        omega

theorem slContainsFuncS_any (a : Option Addr) (c B key : Nat) (ss : List SpanV) (n : Nat) (w : World) (hn : ss.length = n) (h : SAt w a ss) (hB : B < w.heap.size) (hk : w.cell? ⟨B, 0, none⟩ = some (.float .f64 key)) :
    Calls Tryz.prog 31 #[.slice a n c, .func (.func 100) #[] #[.pointer (some ⟨B, 0, none⟩)]] w (Ret (.bool (ss.any fun s => hasB s.rg key)) w) := by
  have H := slIndexFuncS_any a c B key ss n w hn h hB hk
  rw [← idxB_any]
  generalize idxB (fun s : SpanV => hasB s.rg key) ss = r at *
  have hn' := hid hn; have hk' := hid hk
  clear hn hk
  go_enter Tryz.func31, Tryz.ntmps31
  go_wp2_with (go_at_call 80; (with_reducible refine (H).mono ?_); rintro e w1 ⟨rfl, hb1⟩; obtain ⟨hc1, hf1⟩ := bcell hb1; (try simp only [World.heap_drewN, World.cell?_drewN, World.frozen?_drewN] at hc1 hf1); have hz1 := hb1.size; (try simp at hz1); (try have hy1_0 : w.heap.size < w1.heap.size := by omega); (try have hy1_1 : w.heap.size + 1 < w1.heap.size := by omega); (try have hy1_2 : w.heap.size + 2 < w1.heap.size := by omega); (try have hy1_3 : w.heap.size + 3 < w1.heap.size := by omega); (try have hx1_0 : w.heap.size ≤ w1.heap.size := by omega); (try have hx1_1 : w.heap.size + 1 ≤ w1.heap.size := by omega); (try have hx1_2 : w.heap.size + 2 ≤ w1.heap.size := by omega))
  go_ret
  exact ⟨rfl, by (repeat (first | with_reducible exact Below.refl _ _ | ((with_reducible refine Below.alloc1 ?_ ?_ _); (· first | omega | (simp; done) | (simp; omega))) | (with_reducible refine Below.drew ?_) | (with_reducible refine below_drewN' ?_ _) | ((with_reducible refine Below.setCell1 ?_ ?_ _); (· first | omega | (simp; done) | (simp; omega))) | ((with_reducible refine Below.after (by assumption) ?_ ?_); (· first | omega | (simp; done) | (simp; omega)))))⟩

theorem covers_any (a : Option Addr) (c key : Nat) (ss : List SpanV) (n : Nat) (w : World) (hn : ss.length = n) (h : SAt w a ss) :
    Calls Tryz.prog 70 #[.slice a n c, .float .f64 key] w (Ret (.bool (ss.any fun s => hasB s.rg key)) w) := by
  have H := fun W hB hk => slContainsFuncS_any a c w.heap.size key ss n (w.alloc W) hn (h.below ((Below.refl _ _).alloc (Nat.le_refl _) _)) hB hk
  generalize (ss.any fun s => hasB s.rg key) = r at *
  have hn' := hid hn
  clear hn
  go_enter Tryz.func70, Tryz.ntmps70
  go_wp2_with (go_at_call 31; (with_reducible refine (H _ (by simp) (by go_simp)).mono ?_); rintro e w1 ⟨rfl, hb1⟩; obtain ⟨hc1, hf1⟩ := bcell hb1; (try simp only [World.heap_drewN, World.cell?_drewN, World.frozen?_drewN] at hc1 hf1); have hz1 := hb1.size; (try simp at hz1); (try have hy1_0 : w.heap.size < w1.heap.size := by omega); (try have hy1_1 : w.heap.size + 1 < w1.heap.size := by omega); (try have hy1_2 : w.heap.size + 2 < w1.heap.size := by omega); (try have hy1_3 : w.heap.size + 3 < w1.heap.size := by omega); (try have hx1_0 : w.heap.size ≤ w1.heap.size := by omega); (try have hx1_1 : w.heap.size + 1 ≤ w1.heap.size := by omega); (try have hx1_2 : w.heap.size + 2 ≤ w1.heap.size := by omega))
  go_ret
  exact ⟨rfl, by (repeat (first | with_reducible exact Below.refl _ _ | ((with_reducible refine Below.alloc1 ?_ ?_ _); (· first | omega | (simp; done) | (simp; omega))) | (with_reducible refine Below.drew ?_) | (with_reducible refine below_drewN' ?_ _) | ((with_reducible refine Below.setCell1 ?_ ?_ _); (· first | omega | (simp; done) | (simp; omega))) | ((with_reducible refine Below.after (by assumption) ?_ ?_); (· first | omega | (simp; done) | (simp; omega)))))⟩
end Go.Proofs.YtgpkfgeflcdbcaaGreat
