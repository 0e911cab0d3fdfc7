/- Walks of the references' comparisons: SameKeys, SameSpan; Empty, Span. -/
import Derived.Test.YtibimhjbhincnaaR3
import Derived.Deep.RegionWith
import Derived.StillTailTactics
namespace Go.Proofs.Ytibimhjbhincnaa
set_option linter.unusedVariables false
open Go.RowKit Fl

/-- A row of floats lies at a slice's address. -/
def FRow (w : World) (a : Option Addr) (xs : List Nat) : Prop :=
  xs = [] ∨ ∃ b o, a = some ⟨b, o, none⟩ ∧ ∀ i, i < xs.length → w.cell? ⟨b, o + i, none⟩ = some (.float .f64 (xs[i]?.getD 0))

theorem sameKeys_len (a b : Option Addr) (n m ca cb : Nat) (w : World) (h : n ≠ m) :
    Calls Try.prog 55 #[.slice a n ca, .slice b m cb] w fun e w' => e = .returned (.bool false) ∧ w = w' := by
  have h1 : ((n : Int) != (m : Int)) = true := by simp; omega
  go_enter Try.func55, Try.ntmps55
  go_wp2
  go_ret
  exact ⟨rfl, rfl⟩

theorem sameKeys_nil (a b : Option Addr) (ca cb : Nat) (w : World) :
    Calls Try.prog 55 #[.slice a 0 ca, .slice b 0 cb] w fun e w' => e = .returned (.bool true) ∧ w = w' := by
  go_enter Try.func55, Try.ntmps55
  go_wp2
  go_loop [5] (fun i => i = .int .i64 0) (fun _ => 0)
  case atStart => rfl
  case round =>
    subst hrel
    go_wp2
    go_ret
    exact ⟨rfl, rfl⟩

theorem sameKeys_row (b1 o1 b2 o2 : Nat) (ca cb : Nat) (xs ys : List Nat) (w : World) (hl : xs.length = ys.length) (hm : xs.length ≤ maxLen)
    (h1 : ∀ i, i < xs.length → w.cell? ⟨b1, o1 + i, none⟩ = some (.float .f64 (xs[i]?.getD 0)))
    (h2 : ∀ i, i < xs.length → w.cell? ⟨b2, o2 + i, none⟩ = some (.float .f64 (ys[i]?.getD 0))) :
    Calls Try.prog 55 #[.slice (some ⟨b1, o1, none⟩) xs.length ca, .slice (some ⟨b2, o2, none⟩) xs.length cb] w fun e w' => e = .returned (.bool (decide (xs = ys))) ∧ ∃ q, w' = w.drewN q := by
  have H1 := hid h1; have H2 := hid h2; have HL := hid hl
  clear h1 h2 hl
  generalize hn : xs.length = n at *
  unfold maxLen at hm
  have HN := hid hn
  clear hn
  go_enter Try.func55, Try.ntmps55
  go_wp2
  go_loopw [5] (fun i wr => ∃ k : Nat, k ≤ n ∧ i = .int .i64 k ∧ (∀ j, j < k → xs[j]?.getD 0 = ys[j]?.getD 0) ∧ ∃ q, wr = w.drewN q) (fun i _ => n - (intOf i).toNat)
  case atStart => exact ⟨0, Nat.zero_le _, rfl, fun j hj => absurd hj (Nat.not_lt_zero _), 0, rfl⟩
  case round =>
    obtain ⟨k, hk, rfl, hr, q, rfl⟩ := hrel
    have HR := hid hr
    clear hr
    by_cases hlt : k < n
    · have c1 := H1.out k hlt
      have c2 := H2.out k hlt
      by_cases he : xs[k]?.getD 0 = ys[k]?.getD 0
      · have ht : (((xs[k]?.getD 0 : Nat) : Int) != ((ys[k]?.getD 0 : Nat) : Int)) = false := by rw [he]; simp
        have HE := hid he
        clear he
        have hb : (k : Int) < (n : Int) := by omega
        go_wp2
        go_quiet (fail)
        go_wp2
        go_roundw
        case rel => exact ⟨k + 1, by omega, by go_num, fun j hj => by
            by_cases h : j < k
            · exact HR.out j h
            · obtain rfl : j = k := by omega
              exact HE.out, _, rfl⟩
        case measure => simp [intOf]; omega
      · have ht : (((xs[k]?.getD 0 : Nat) : Int) != ((ys[k]?.getD 0 : Nat) : Int)) = true := by simp; omega
        have HE := hid he
        clear he
        have hb : (k : Int) < (n : Int) := by omega
        go_wp2
        go_quiet (fail)
        go_wp2
        go_ret
        refine ⟨ret_bool ?_, _, World.drewN_drewN ..⟩
        symm; rw [decide_eq_false_iff_not]
        intro h; exact HE.out (by rw [h])
    · obtain rfl : k = n := by omega
      go_wp2
      go_ret
      refine ⟨ret_bool ?_, _, rfl⟩
      symm; rw [decide_eq_true_eq]
      apply List.ext_getElem?
      intro j
      by_cases hj : j < k
      · have := HR.out j hj
        have e1 : xs[j]? = some (xs[j]?.getD 0) := by
          rw [List.getElem?_eq_getElem (by have := HN.out; omega)]; rfl
        have e2 : ys[j]? = some (ys[j]?.getD 0) := by
          rw [List.getElem?_eq_getElem (by have := HN.out; have := HL.out; omega)]; rfl
        rw [e1, e2, this]
      · rw [List.getElem?_eq_none (by have := HN.out; omega), List.getElem?_eq_none (by have := HN.out; have := HL.out; omega)]

theorem refEmpty_any (l h : Int) (w : World) :
    Calls Try.prog 21 #[.agg #[.int .u64 l, .int .u64 h]] w (Ret (.bool (decide (h < l))) w) := by
  go_enter Try.func21, Try.ntmps21
  go_wp2
  go_ret
  exact ⟨rfl, by (repeat (first | with_reducible exact Below.refl _ _ | ((with_reducible refine Below.alloc1 ?_ ?_ _); (· first | omega | (simp; done) | (simp; omega))) | (with_reducible refine Below.drew ?_) | (with_reducible refine below_drewN' ?_ _) | ((with_reducible refine Below.setCell1 ?_ ?_ _); (· first | omega | (simp; done) | (simp; omega))) | ((with_reducible refine Below.after (by assumption) ?_ ?_); (· first | omega | (simp; done) | (simp; omega)))))⟩

/-- Two spans, bit by bit. -/
def sameSp (a0 a1 : Nat) (a2 a3 : Bool) (b0 b1 : Nat) (b2 b3 : Bool) : Bool := decide (a2 = b2 ∧ a3 = b3 ∧ a0 = b0 ∧ a1 = b1)

theorem pair_eq (a0 a1 b0 b1 : Nat) : decide ([a0, a1] = [b0, b1]) = (decide (a0 = b0) && decide (a1 = b1)) := by
  simp

theorem sameSpan_any (a0 a1 b0 b1 : Nat) (a2 a3 b2 b3 : Bool) (w : World) :
    Calls Try.prog 17 #[.agg #[.float .f64 a0, .float .f64 a1, .bool a2, .bool a3], .agg #[.float .f64 b0, .float .f64 b1, .bool b2, .bool b3]] w (Ret (.bool (sameSp a0 a1 a2 a3 b0 b1 b2 b3)) w) := by
  go_enter Try.func17, Try.ntmps17
  go_wp2_with fail
  all_goals first
    | (go_ret; exact ⟨ret_bool (by simp [sameSp, *]), by (repeat (first | with_reducible exact Below.refl _ _ | ((with_reducible refine Below.alloc1 ?_ ?_ _); (· first | omega | (simp; done) | (simp; omega))) | (with_reducible refine Below.drew ?_) | (with_reducible refine below_drewN' ?_ _) | ((with_reducible refine Below.setCell1 ?_ ?_ _); (· first | omega | (simp; done) | (simp; omega))) | ((with_reducible refine Below.after (by assumption) ?_ ?_); (· first | omega | (simp; done) | (simp; omega)))))⟩)
    | skip
  · refine (sameKeys_row (w.heap.size + 1 + 1) 0 (w.heap.size + 1 + 1 + 1) 0 2 2 [a0, a1] [b0, b1] _ rfl (by simp [maxLen]) ?_ ?_).mono ?_
    · intro i hi
      have : i = 0 ∨ i = 1 := by simp at hi; omega
      rcases this with rfl | rfl <;> simp [go_sem]
    · intro i hi
      have : i = 0 ∨ i = 1 := by simp at hi; omega
      rcases this with rfl | rfl <;> simp [go_sem]
    · rintro e w1 ⟨rfl, q, rfl⟩
      go_wp2
      go_ret
      exact ⟨ret_bool (by simp [sameSp, *]), by (repeat (first | with_reducible exact Below.refl _ _ | ((with_reducible refine Below.alloc1 ?_ ?_ _); (· first | omega | (simp; done) | (simp; omega))) | (with_reducible refine Below.drew ?_) | (with_reducible refine below_drewN' ?_ _) | ((with_reducible refine Below.setCell1 ?_ ?_ _); (· first | omega | (simp; done) | (simp; omega))) | ((with_reducible refine Below.after (by assumption) ?_ ?_); (· first | omega | (simp; done) | (simp; omega)))))⟩

theorem refSpan_none (w : World) :
    Calls Try.prog 19 #[rgv none] w (Ret (spv none) w) := by
  rw [rgv_none]
  go_enter Try.func19, Try.ntmps19
  go_wp2_with (go_at_call 21; (with_reducible refine (refEmpty_any _ _ _).mono ?_); rintro e w1 ⟨rfl, hb1⟩; obtain ⟨hc1, hf1⟩ := bcell hb1; (try simp only [World.heap_drewN, World.cell?_drewN, World.frozen?_drewN] at hc1 hf1); have hz1 := hb1.size; (try simp at hz1); (try have hy1_0 : w.heap.size < w1.heap.size := by omega); (try have hy1_1 : w.heap.size + 1 < w1.heap.size := by omega); (try have hy1_2 : w.heap.size + 2 < w1.heap.size := by omega); (try have hy1_3 : w.heap.size + 3 < w1.heap.size := by omega); (try have hx1_0 : w.heap.size ≤ w1.heap.size := by omega); (try have hx1_1 : w.heap.size + 1 ≤ w1.heap.size := by omega); (try have hx1_2 : w.heap.size + 2 ≤ w1.heap.size := by omega))
  exact bodyPost_ret (v := spv none) (by simp [results, Try.results19, go_sem, *]) rfl ⟨rfl, by (repeat (first | with_reducible exact Below.refl _ _ | ((with_reducible refine Below.alloc1 ?_ ?_ _); (· first | omega | (simp; done) | (simp; omega))) | (with_reducible refine Below.drew ?_) | (with_reducible refine below_drewN' ?_ _) | ((with_reducible refine Below.setCell1 ?_ ?_ _); (· first | omega | (simp; done) | (simp; omega))) | ((with_reducible refine Below.after (by assumption) ?_ ?_); (· first | omega | (simp; done) | (simp; omega)))))⟩

set_option maxRecDepth 100000 in
theorem refSpan_some (l h : Key) (hlh : l.v ≤ h.v) (w : World) :
    Calls Try.prog 19 #[rgv (some (l, h))] w (Ret (spv (some (l, h))) w) := by
  have h1 : decide (kcode h < kcode l) = false := by rw [decide_eq_false_iff_not, kcode_lt]; omega
  clear hlh
  rw [rgv_some]
  go_enter Try.func19, Try.ntmps19
  go_wp2_with (go_at_call 21; (with_reducible refine (refEmpty_any _ _ _).mono ?_); rintro e w1 ⟨rfl, hb1⟩; obtain ⟨hc1, hf1⟩ := bcell hb1; (try simp only [World.heap_drewN, World.cell?_drewN, World.frozen?_drewN] at hc1 hf1); have hz1 := hb1.size; (try simp at hz1); (try have hy1_0 : w.heap.size < w1.heap.size := by omega); (try have hy1_1 : w.heap.size + 1 < w1.heap.size := by omega); (try have hy1_2 : w.heap.size + 2 < w1.heap.size := by omega); (try have hy1_3 : w.heap.size + 3 < w1.heap.size := by omega); (try have hx1_0 : w.heap.size ≤ w1.heap.size := by omega); (try have hx1_1 : w.heap.size + 1 ≤ w1.heap.size := by omega); (try have hx1_2 : w.heap.size + 2 ≤ w1.heap.size := by omega))
  (refine wp_region_still_tail 7 (by kernel_rfl) (by kernel_rfl) ?_; simp only [List.take_succ_cons, List.take_zero, List.drop_succ_cons, List.drop_zero]; (repeat (first | still_step | (still_call ((refOfCode_any _ _).mono fun _ _ ⟨hq1, hq2⟩ => ⟨hq1, hq2.symm⟩)))); refine wpStill_nil ?_; change wpList _ _ _ _ _ (World.drew w1))
  go_wp2
  exact bodyPost_ret (v := spv (some (l, h))) (by simp [results, Try.results19, go_sem, *]) rfl ⟨rfl, by (repeat (first | with_reducible exact Below.refl _ _ | ((with_reducible refine Below.alloc1 ?_ ?_ _); (· first | omega | (simp; done) | (simp; omega))) | (with_reducible refine Below.drew ?_) | (with_reducible refine below_drewN' ?_ _) | ((with_reducible refine Below.setCell1 ?_ ?_ _); (· first | omega | (simp; done) | (simp; omega))) | ((with_reducible refine Below.after (by assumption) ?_ ?_); (· first | omega | (simp; done) | (simp; omega)))))⟩
end Go.Proofs.Ytibimhjbhincnaa
