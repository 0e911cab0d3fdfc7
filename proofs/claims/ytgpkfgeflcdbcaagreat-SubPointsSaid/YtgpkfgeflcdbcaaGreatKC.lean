/- Walks of sub: which submissions are right. -/
import Derived.Test.YtgpkfgeflcdbcaaGreatKC0
import Derived.Test.YtgpkfgeflcdbcaaGreatMN
import Derived.Test.YtgpkfgeflcdbcaaGreatNoteG
namespace Go.Proofs.YtgpkfgeflcdbcaaGreat.K
set_option linter.unusedVariables false
open Go.RowKit Fl

theorem same_form (x : SpanV) (y : RK) (v : Bool) (hv : decide (x = N.RK.raw y) = v) (w : World) :
    Calls Tryz.prog 66 #[.agg #[.float .f64 x.lo, .float .f64 x.hi, .bool x.a, .bool x.b], .agg #[.float .f64 y.lo.bits, .float .f64 y.hi.bits, .bool false, .bool false]] w (Ret (.bool v) w) := by
  refine same_lit x.lo x.hi y.lo.bits y.hi.bits x.a x.b _ _ _ _ v w rfl rfl rfl rfl ?_
  rw [← hv]
  rcases x with ⟨lo, hi, a, b⟩
  by_cases h : (⟨lo, hi, a, b⟩ : SpanV) = N.RK.raw y
  · rw [decide_eq_true h]
    unfold N.RK.raw at h
    cases h
    have e1 : feq y.lo.bits y.lo.bits = true := by rw [feq_self, Key.bits_nan]; rfl
    have e2 : feq y.hi.bits y.hi.bits = true := by rw [feq_self, Key.bits_nan]; rfl
    simp [e1, e2]
  · rw [decide_eq_false h]
    cases a <;> cases b <;> simp
    intro _ _ h3 h4
    apply h
    unfold N.RK.raw
    (try simp at h3)
    (try simp at h4)
    rw [show lo = y.lo.bits by omega, show hi = y.hi.bits by omega]

set_option maxHeartbeats 1000000 in
set_option maxRecDepth 100000 in
theorem equalS_any (a a' : Option Addr) (c c' n n' : Nat) (xs : List SpanV) (G : List RK) (v : Bool) (w : World) (hn : xs.length = n) (hn' : G.length = n') (hx : SAt w a xs) (hy : SAt w a' (G.map N.RK.raw)) (hv : decide (xs = G.map N.RK.raw) = v) :
    Calls Tryz.prog 65 #[.slice a n c, .slice a' n' c', .func (.func 66) #[] #[]] w (Ret (.bool v) w) := by
  by_cases hnn : n = n'
  · subst hnn
    have hb1 : ((n : Int) != (n : Int)) = false := by simp
    obtain ⟨hr, _, hm⟩ := hx
    obtain ⟨hr', _, _⟩ := hy
    unfold maxLen at hm
    rw [hn] at hm
    have HN := hid hn; have HN' := hid hn'; have HV := hid hv
    clear hn hn' hv
    go_enter Tryz.func65, Tryz.ntmps65
    go_wp2
    go_loopw [17] (fun iv wr => ∃ k : Nat, k ≤ n ∧ iv = .int .i64 k ∧ Hid (∀ j, j < k → xs[j]? = (G.map N.RK.raw)[j]?) ∧ Below w.heap.size w wr) (fun iv _ => n - (intOf iv).toNat)
    case atStart => exact ⟨0, Nat.zero_le _, rfl, hid fun j hj => absurd hj (Nat.not_lt_zero _), Below.refl _ _⟩
    case round =>
      obtain ⟨k, hk, rfl, HR, hbw⟩ := hrel
      have hsz := hbw.size
      by_cases hlt : k < n
      · have hlt' : (k : Int) < (n : Int) := by omega
        have k1 : k < xs.length := by rw [HN.out]; exact hlt
        have k2 : k < (G.map N.RK.raw).length := by rw [List.length_map, HN'.out]; exact hlt
        rcases hr with h0 | ⟨b, o, rfl, hb, hc⟩
        · rw [h0] at k1; simp at k1
        rcases hr' with h0 | ⟨b', o', rfl, hb', hc'⟩
        · rw [h0] at k2; simp at k2
        obtain ⟨c0, c1, c2, c3⟩ := hc k k1
        obtain ⟨e0, e1, e2, e3⟩ := hc' k k2
        have hxs := hid (sp_some k1)
        have hg0 : G[k]? = some (G[k]?.getD default) := by rw [List.getElem?_eq_getElem (by rw [HN'.out]; exact hlt)]; rfl
        have hys : Hid ((G.map N.RK.raw)[k]? = some (N.RK.raw (G[k]?.getD default))) := hid (by rw [List.getElem?_map, hg0]; rfl)
        have hgd : (G.map N.RK.raw)[k]?.getD default = N.RK.raw (G[k]?.getD default) := by rw [hys.out]; rfl
        rw [hgd] at e0 e1 e2 e3
        have kk := fun j => hbw.cell (p := ⟨b, j, none⟩) hb
        have kk' := fun j => hbw.cell (p := ⟨b', j, none⟩) hb'
        have d0 := (kk _).trans c0; have d1 := (kk _).trans c1; have d2 := (kk _).trans c2; have d3 := (kk _).trans c3
        have f0 := (kk' _).trans e0; have f1 := (kk' _).trans e1; have f2 := (kk' _).trans e2; have f3 := (kk' _).trans e3
        clear c0 c1 c2 c3 e0 e1 e2 e3 kk kk' hc hc' k1 k2 hgd hg0
        generalize xs[k]?.getD default = x at *
        generalize G[k]?.getD default = y at *
        have hbl : b < wr.heap.size := by omega
        have hbl' : b' < wr.heap.size := by omega
        have HY : N.RK.raw y = ⟨y.lo.bits, y.hi.bits, false, false⟩ := rfl
        simp only [HY] at f0 f1 f2 f3
        cases hp : decide (x = N.RK.raw y)
        · have H := fun W => same_form x y false hp W
          have Hv : Hid (v = false) := hid (by
            rw [← HV.out, decide_eq_false_iff_not]
            intro h
            have h1 := hxs.out
            rw [h, hys.out] at h1
            exact (of_decide_eq_false hp) (Option.some.inj h1).symm)
          clear hp HY
          go_wp2_with (go_at_call 66; (with_reducible refine (H _).mono ?_); rintro e w1 ⟨rfl, hb1⟩; obtain ⟨hc1, hf1⟩ := bcell hb1; (try simp only [World.heap_drewN, World.cell?_drewN, World.frozen?_drewN] at hc1 hf1); have hz1 := hb1.size; (try simp at hz1); (try have hy1_0 : w.heap.size < w1.heap.size := by omega); (try have hy1_1 : w.heap.size + 1 < w1.heap.size := by omega); (try have hy1_2 : w.heap.size + 2 < w1.heap.size := by omega); (try have hy1_3 : w.heap.size + 3 < w1.heap.size := by omega); (try have hx1_0 : w.heap.size ≤ w1.heap.size := by omega); (try have hx1_1 : w.heap.size + 1 ≤ w1.heap.size := by omega); (try have hx1_2 : w.heap.size + 2 ≤ w1.heap.size := by omega); (try have hu1_wr_0 : wr.heap.size < w1.heap.size := by omega); (try have hu1_wr_1 : wr.heap.size + 1 < w1.heap.size := by omega))
          go_ret
          exact ⟨ret_bool (by rw [Hv.out]), by (repeat (first | with_reducible exact Below.refl _ _ | ((with_reducible refine Below.alloc1 ?_ ?_ _); (· first | omega | (simp; done) | (simp; omega))) | (with_reducible refine Below.drew ?_) | (with_reducible refine below_drewN' ?_ _) | ((with_reducible refine Below.setCell1 ?_ ?_ _); (· first | omega | (simp; done) | (simp; omega))) | ((with_reducible refine Below.after (by assumption) ?_ ?_); (· first | omega | (simp; done) | (simp; omega)))))⟩
        · have hxy : x = N.RK.raw y := of_decide_eq_true hp
          have H := fun W => same_form x y true hp W
          have HR2 : Hid (∀ j, j < k + 1 → xs[j]? = (G.map N.RK.raw)[j]?) := hid fun j hj => by
            by_cases h : j < k
            · exact HR.out j h
            · obtain rfl : j = k := by omega
              rw [hxs.out, hys.out, hxy]
          clear hp hxy HY
          go_wp2_with (go_at_call 66; (with_reducible refine (H _).mono ?_); rintro e w1 ⟨rfl, hb1⟩; obtain ⟨hc1, hf1⟩ := bcell hb1; (try simp only [World.heap_drewN, World.cell?_drewN, World.frozen?_drewN] at hc1 hf1); have hz1 := hb1.size; (try simp at hz1); (try have hy1_0 : w.heap.size < w1.heap.size := by omega); (try have hy1_1 : w.heap.size + 1 < w1.heap.size := by omega); (try have hy1_2 : w.heap.size + 2 < w1.heap.size := by omega); (try have hy1_3 : w.heap.size + 3 < w1.heap.size := by omega); (try have hx1_0 : w.heap.size ≤ w1.heap.size := by omega); (try have hx1_1 : w.heap.size + 1 ≤ w1.heap.size := by omega); (try have hx1_2 : w.heap.size + 2 ≤ w1.heap.size := by omega); (try have hu1_wr_0 : wr.heap.size < w1.heap.size := by omega); (try have hu1_wr_1 : wr.heap.size + 1 < w1.heap.size := by omega))
          go_roundw
          case rel => exact ⟨k + 1, by omega, by go_num, HR2, by (repeat (first | with_reducible exact Below.refl _ _ | ((with_reducible refine Below.alloc1 ?_ ?_ _); (· first | omega | (simp; done) | (simp; omega))) | (with_reducible refine Below.drew ?_) | (with_reducible refine below_drewN' ?_ _) | ((with_reducible refine Below.setCell1 ?_ ?_ _); (· first | omega | (simp; done) | (simp; omega))) | ((with_reducible refine Below.after (by assumption) ?_ ?_); (· first | omega | (simp; done) | (simp; omega)))))⟩
          case measure => simp [intOf]; omega
      · obtain rfl : k = n := by omega
        have Hv : Hid (v = true) := hid (by
          rw [← HV.out, decide_eq_true_eq]
          apply List.ext_getElem?
          intro j
          by_cases hj : j < k
          · exact HR.out j hj
          · rw [List.getElem?_eq_none (by rw [HN.out]; omega), List.getElem?_eq_none (by rw [List.length_map, HN'.out]; omega)])
        go_wp2
        go_ret
        exact ⟨ret_bool (by rw [Hv.out]), by (repeat (first | with_reducible exact Below.refl _ _ | ((with_reducible refine Below.alloc1 ?_ ?_ _); (· first | omega | (simp; done) | (simp; omega))) | (with_reducible refine Below.drew ?_) | (with_reducible refine below_drewN' ?_ _) | ((with_reducible refine Below.setCell1 ?_ ?_ _); (· first | omega | (simp; done) | (simp; omega))) | ((with_reducible refine Below.after (by assumption) ?_ ?_); (· first | omega | (simp; done) | (simp; omega)))))⟩
  · have hb1 : ((n : Int) != (n' : Int)) = true := by simp; omega
    have Hv : Hid (v = false) := hid (by
      rw [← hv, decide_eq_false_iff_not]
      intro h
      rw [h, List.length_map] at hn; omega)
    clear hv hx hy hn hn'
    go_enter Tryz.func65, Tryz.ntmps65
    go_wp2
    go_ret
    exact ⟨ret_bool (by rw [Hv.out]), by (repeat (first | with_reducible exact Below.refl _ _ | ((with_reducible refine Below.alloc1 ?_ ?_ _); (· first | omega | (simp; done) | (simp; omega))) | (with_reducible refine Below.drew ?_) | (with_reducible refine below_drewN' ?_ _) | ((with_reducible refine Below.setCell1 ?_ ?_ _); (· first | omega | (simp; done) | (simp; omega))) | ((with_reducible refine Below.after (by assumption) ?_ ?_); (· first | omega | (simp; done) | (simp; omega)))))⟩
end Go.Proofs.YtgpkfgeflcdbcaaGreat.K
