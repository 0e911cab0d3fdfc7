/- The table of layer 10: Drop. -/
import Derived.Test.YtnlaepogkepnhaaQW
import Derived.Test.YtnlaepogkepnhaaIdx
namespace Go.Proofs.Ytnlaepogkepnhaa.Q
set_option linter.unusedVariables false
open Go.RowKit Fl

theorem lt_alloc1 {b : Nat} {w : World} {o : Obj} (h : b < w.heap.size) : b < (w.alloc o).heap.size := by simp; omega

theorem vDrop1_any (k : RK) (n m : Int) (B : Nat) (w : World) (hB : B < w.heap.size) (hc : w.cell? ⟨B, 0, none⟩ = some (.int .i64 m)) :
    Calls Try.prog 67 #[.agg #[.float .f64 k.lo.bits, .float .f64 k.hi.bits, .bool false, .bool false, .int .i64 n], .pointer (some ⟨B, 0, none⟩)] w (Ret (.bool (decide (n ≤ m))) w) := by
  go_enter Try.func67, Try.ntmps67
  go_wp2
  go_ret
  exact ⟨rfl, by (repeat (first | with_reducible exact Below.refl _ _ | ((with_reducible refine Below.alloc1 ?_ ?_ _); (· first | omega | (simp; done) | (simp; omega))) | (with_reducible refine Below.drew ?_) | (with_reducible refine below_drewN' ?_ _) | ((with_reducible refine Below.setCell1 ?_ ?_ _); (· first | omega | (simp; done) | (simp; omega))) | ((with_reducible refine Below.after (by assumption) ?_ ?_); (· first | omega | (simp; done) | (simp; omega)))))⟩

theorem vIdx_row (b c n B : Nat) (m : Int) (its : List ItV) (w : World) (hn : its.length = n) (hlen : n ≤ 64) (hB : B < w.heap.size) (hm : w.cell? ⟨B, 0, none⟩ = some (.int .i64 m))
    (hb : b < w.heap.size) (hc : ∀ i, i < its.length → w.cell? ⟨b, i * 5, none⟩ = some (.float .f64 (its[i]?.getD default).k.lo.bits) ∧ w.cell? ⟨b, i * 5 + 1, none⟩ = some (.float .f64 (its[i]?.getD default).k.hi.bits) ∧ w.cell? ⟨b, i * 5 + 2, none⟩ = some (.bool false) ∧ w.cell? ⟨b, i * 5 + 3, none⟩ = some (.bool false) ∧ w.cell? ⟨b, i * 5 + 4, none⟩ = some (.int .i64 (its[i]?.getD default).n)) :
    Calls Try.prog 89 #[.slice (some ⟨b, 0, none⟩) n c, .func (.func 67) #[] #[.pointer (some ⟨B, 0, none⟩)]] w (Ret (.int .i64 (idxB (fun x => decide (x.n ≤ m)) its)) w) := by
  have HC := hid hc; have HN := hid hn; have HM := hid hm
  clear hc hn hm
  go_enter Try.func89, Try.ntmps89
  go_wp2
  go_loopw [8] (fun i wr => ∃ k : Nat, k ≤ n ∧ i = .int .i64 k ∧ Hid (∀ j : Nat, j < k → ∀ y, its[j]? = some y → decide (y.n ≤ m) = false) ∧ Below w.heap.size w wr) (fun i _ => n - (intOf i).toNat)
  case atStart => exact ⟨0, Nat.zero_le _, rfl, hid fun j hj => absurd hj (Nat.not_lt_zero _), Below.refl _ _⟩
  case round =>
    obtain ⟨k, hk, rfl, HR, hbw⟩ := hrel
    have hsz := hbw.size
    by_cases hlt : k < n
    · obtain ⟨c0, c1, c2, c3, c4⟩ := HC.out k (by rw [HN.out]; exact hlt)
      have hlt' : (k : Int) < (n : Int) := by omega
      have hkx := hid (it_some (its := its) (k := k) (by rw [HN.out]; exact hlt))
      have d0 := (hbw.cell (p := ⟨b, _, none⟩) hb).trans c0
      have d1 := (hbw.cell (p := ⟨b, _, none⟩) hb).trans c1
      have d2 := (hbw.cell (p := ⟨b, _, none⟩) hb).trans c2
      have d3 := (hbw.cell (p := ⟨b, _, none⟩) hb).trans c3
      have d4 := (hbw.cell (p := ⟨b, _, none⟩) hb).trans c4
      have dm := (hbw.cell (p := ⟨B, 0, none⟩) hB).trans HM.out
      clear c0 c1 c2 c3 c4
      generalize its[k]?.getD default = x at *
      have hBw : B < wr.heap.size := by omega
      have H := vDrop1_any x.k x.n m B wr hBw dm
      clear dm
      cases hp : decide (x.n ≤ m)
      · rw [hp] at H
        have HP := hid hp
        clear hp
        go_wp2_with (go_at_call 67; (with_reducible refine (H).mono ?_); rintro e w1 ⟨rfl, hb1⟩; obtain ⟨hc1, hf1⟩ := bcell hb1; (try simp only [World.heap_drewN, World.cell?_drewN, World.frozen?_drewN] at hc1 hf1); have hz1 := hb1.size; (try simp at hz1); (try have hy1_0 : w.heap.size < w1.heap.size := by omega); (try have hy1_1 : w.heap.size + 1 < w1.heap.size := by omega); (try have hy1_2 : w.heap.size + 2 < w1.heap.size := by omega); (try have hy1_3 : w.heap.size + 3 < w1.heap.size := by omega); (try have hx1_0 : w.heap.size ≤ w1.heap.size := by omega); (try have hx1_1 : w.heap.size + 1 ≤ w1.heap.size := by omega); (try have hx1_2 : w.heap.size + 2 ≤ w1.heap.size := by omega))
        go_roundw
        case rel => exact ⟨k + 1, by omega, by go_num, hid fun j hj y hy => by
            by_cases h : j < k
            · exact HR.out j h y hy
            · obtain rfl : j = k := by omega
              rw [hkx.out] at hy; cases hy; exact HP.out, by (repeat (first | with_reducible exact Below.refl _ _ | ((with_reducible refine Below.alloc1 ?_ ?_ _); (· first | omega | (simp; done) | (simp; omega))) | (with_reducible refine Below.drew ?_) | (with_reducible refine below_drewN' ?_ _) | ((with_reducible refine Below.setCell1 ?_ ?_ _); (· first | omega | (simp; done) | (simp; omega))) | ((with_reducible refine Below.after (by assumption) ?_ ?_); (· first | omega | (simp; done) | (simp; omega)))))⟩
        case measure => simp [intOf]; omega
      · rw [hp] at H
        have HP := hid hp
        clear hp
        go_wp2_with (go_at_call 67; (with_reducible refine (H).mono ?_); rintro e w1 ⟨rfl, hb1⟩; obtain ⟨hc1, hf1⟩ := bcell hb1; (try simp only [World.heap_drewN, World.cell?_drewN, World.frozen?_drewN] at hc1 hf1); have hz1 := hb1.size; (try simp at hz1); (try have hy1_0 : w.heap.size < w1.heap.size := by omega); (try have hy1_1 : w.heap.size + 1 < w1.heap.size := by omega); (try have hy1_2 : w.heap.size + 2 < w1.heap.size := by omega); (try have hy1_3 : w.heap.size + 3 < w1.heap.size := by omega); (try have hx1_0 : w.heap.size ≤ w1.heap.size := by omega); (try have hx1_1 : w.heap.size + 1 ≤ w1.heap.size := by omega); (try have hx1_2 : w.heap.size + 2 ≤ w1.heap.size := by omega))
        go_ret
        exact ⟨ret_int (by rw [idxB_some (p := fun x : ItV => decide (x.n ≤ m)) hkx.out HP.out HR.out]), by (repeat (first | with_reducible exact Below.refl _ _ | ((with_reducible refine Below.alloc1 ?_ ?_ _); (· first | omega | (simp; done) | (simp; omega))) | (with_reducible refine Below.drew ?_) | (with_reducible refine below_drewN' ?_ _) | ((with_reducible refine Below.setCell1 ?_ ?_ _); (· first | omega | (simp; done) | (simp; omega))) | ((with_reducible refine Below.after (by assumption) ?_ ?_); (· first | omega | (simp; done) | (simp; omega)))))⟩
    · obtain rfl : k = n := by omega
      go_wp2
      go_ret
      refine ⟨ret_int ?_, by (repeat (first | with_reducible exact Below.refl _ _ | ((with_reducible refine Below.alloc1 ?_ ?_ _); (· first | omega | (simp; done) | (simp; omega))) | (with_reducible refine Below.drew ?_) | (with_reducible refine below_drewN' ?_ _) | ((with_reducible refine Below.setCell1 ?_ ?_ _); (· first | omega | (simp; done) | (simp; omega))) | ((with_reducible refine Below.after (by assumption) ?_ ?_); (· first | omega | (simp; done) | (simp; omega)))))⟩
      rw [idxB_none]
      intro i x hx
      refine HR.out i ?_ x hx
      have := (List.getElem?_eq_some_iff.1 hx).1
      have := HN.out
      omega

/-- Who stays. -/
def kept (m : Int) (its : List ItV) : List ItV := its.filter fun x => !decide (x.n ≤ m)

theorem flat_take_it (its : List ItV) (k : Nat) : (itCells its).take (k * 5) = itCells (its.take k) := flat_take ItV.enc_len its k
theorem kept_snoc (m : Int) {its : List ItV} {t : Nat} {x : ItV} (hx : its[t]? = some x) : kept m (its.take (t + 1)) = kept m (its.take t) ++ (if decide (x.n ≤ m) = true then [] else [x]) := by
  unfold kept
  rw [List.take_add_one, hx, List.filter_append]
  congr 1
  by_cases h : x.n ≤ m <;> simp [h]

/-- The row in the middle of the deletion: what stays of the first t lies ahead, from t on all is as it was. -/
structure DelMid (w wr : World) (g : Nat) (cur : Array Value) (m : Int) (its : List ItV) (i t : Nat) : Prop where
  grown : w.grownBy wr (some g)
  at' : i = (kept m (its.take t)).length
  lt : i < t
  row : ∃ cur' : Array Value, wr.heap[g]? = some (.cells cur' 70 (0, 0)) ∧ cur'.size = cur.size ∧ cur'.toList.take (i * 5) = itCells (kept m (its.take t)) ∧ cur'.toList.drop (t * 5) = cur.toList.drop (t * 5)

theorem grown_trans {w w1 w2 : World} {r : Option Nat} (h1 : w.grownBy w1 r) (h2 : w1.grownBy w2 r) : w.grownBy w2 r :=
  ⟨h2.os.trans h1.os, h2.tape.trans h1.tape, h2.output.trans h1.output, Nat.le_trans h1.size h2.size, fun k hk hne => (h2.block k (Nat.lt_of_lt_of_le hk h1.size) hne).trans (h1.block k hk hne)⟩
theorem grown_row {w w1 : World} {r : Option Nat} (h : w.grownBy w1 none) : w.grownBy w1 r := ⟨h.os, h.tape, h.output, h.size, fun k hk _ => h.block k hk (by simp)⟩

theorem DelMid.skip {w wr W : World} {g : Nat} {cur : Array Value} {m : Int} {its : List ItV} {i t : Nat} {x : ItV} (h : DelMid w wr g cur m its i t) (hx : its[t]? = some x) (hp : decide (x.n ≤ m) = true) (hb : Below wr.heap.size wr W) : DelMid w W g cur m its i (t + 1) := by
  obtain ⟨cur', q1, q2, q3, q4⟩ := h.row
  have e : kept m (its.take (t + 1)) = kept m (its.take t) := by rw [kept_snoc m hx, if_pos hp, List.append_nil]
  refine ⟨grown_trans h.grown (grown_row (grown_of_below hb)), by rw [e]; exact h.at', by have := h.lt; omega, cur', (hb.block g (Array.getElem?_eq_some_iff.1 q1).1).trans q1, q2, by rw [e]; exact q3, ?_⟩
  have := congrArg (List.drop 5) q4
  rw [List.drop_drop, List.drop_drop] at this
  rw [show (t + 1) * 5 = t * 5 + 5 by omega]
  exact this

theorem take_set_snoc {α : Type} {l : List α} {p : Nat} (v : α) (h : p < l.length) : (l.set p v).take (p + 1) = l.take p ++ [v] := by
  rw [List.take_add_one, List.take_set_of_le (Nat.le_refl _), List.getElem?_set_self h]; rfl
/-- Five cells laid one by one. -/
def set5 (cur : Array Value) (p : Nat) (v0 v1 v2 v3 v4 : Value) : Array Value := ((((cur.setIfInBounds p v0).setIfInBounds (p + 1) v1).setIfInBounds (p + 2) v2).setIfInBounds (p + 3) v3).setIfInBounds (p + 4) v4
theorem set5_take {cur : Array Value} {p : Nat} (v0 v1 v2 v3 v4 : Value) (h : p + 5 ≤ cur.size) : (set5 cur p v0 v1 v2 v3 v4).toList.take (p + 5) = cur.toList.take p ++ [v0, v1, v2, v3, v4] := by
  unfold set5
  simp only [Array.toList_setIfInBounds]
  rw [show p + 5 = p + 4 + 1 by omega, take_set_snoc _ (by simp; omega), show p + 4 = p + 3 + 1 by omega, take_set_snoc _ (by simp; omega), show p + 3 = p + 2 + 1 by omega, take_set_snoc _ (by simp; omega), show p + 2 = p + 1 + 1 by omega, take_set_snoc _ (by simp; omega), take_set_snoc _ (by simp; omega)]
  simp
theorem set5_drop {cur : Array Value} {p q : Nat} (v0 v1 v2 v3 v4 : Value) (h : p + 5 ≤ q) : (set5 cur p v0 v1 v2 v3 v4).toList.drop q = cur.toList.drop q := by
  unfold set5
  simp only [Array.toList_setIfInBounds]
  rw [List.drop_set_of_lt (by omega), List.drop_set_of_lt (by omega), List.drop_set_of_lt (by omega), List.drop_set_of_lt (by omega), List.drop_set_of_lt (by omega)]
theorem set5_row {W : World} {g p : Nat} {cur : Array Value} {T : TypeId} (v0 v1 v2 v3 v4 : Value) (h : W.heap[g]? = some (.cells cur T (0, 0))) :
    W.grownBy (((((W.setCell ⟨g, p, none⟩ v0).setCell ⟨g, p + 1, none⟩ v1).setCell ⟨g, p + 2, none⟩ v2).setCell ⟨g, p + 3, none⟩ v3).setCell ⟨g, p + 4, none⟩ v4) (some g) ∧
    (((((W.setCell ⟨g, p, none⟩ v0).setCell ⟨g, p + 1, none⟩ v1).setCell ⟨g, p + 2, none⟩ v2).setCell ⟨g, p + 3, none⟩ v3).setCell ⟨g, p + 4, none⟩ v4).heap[g]? = some (.cells (set5 cur p v0 v1 v2 v3 v4) T (0, 0)) := by
  have one : ∀ (X : World) (c : Array Value) (q : Nat) (v : Value), X.heap[g]? = some (.cells c T (0, 0)) → X.grownBy (X.setCell ⟨g, q, none⟩ v) (some g) ∧ (X.setCell ⟨g, q, none⟩ v).heap[g]? = some (.cells (c.setIfInBounds q v) T (0, 0)) := fun X c q v hX => by
    rw [setCell_eq_setRow X g q c _ _ v hX]
    exact ⟨grownBy_setRow _ _ _, setRow_heap _ _ _ _ _ _ hX⟩
  obtain ⟨a0, b0⟩ := one _ _ p v0 h
  obtain ⟨a1, b1⟩ := one _ _ (p + 1) v1 b0
  obtain ⟨a2, b2⟩ := one _ _ (p + 2) v2 b1
  obtain ⟨a3, b3⟩ := one _ _ (p + 3) v3 b2
  obtain ⟨a4, b4⟩ := one _ _ (p + 4) v4 b3
  exact ⟨grown_trans a0 (grown_trans a1 (grown_trans a2 (grown_trans a3 a4))), b4⟩

theorem DelMid.keep {w wr W : World} {g : Nat} {cur : Array Value} {m : Int} {its : List ItV} {i t : Nat} {x : ItV} (h : DelMid w wr g cur m its i t) (hx : its[t]? = some x) (hp : decide (x.n ≤ m) = false) (hb : Below wr.heap.size wr W) (hs : t * 5 + 5 ≤ cur.size) :
    DelMid w (((((W.setCell ⟨g, i * 5, none⟩ (.float .f64 x.k.lo.bits)).setCell ⟨g, i * 5 + 1, none⟩ (.float .f64 x.k.hi.bits)).setCell ⟨g, i * 5 + 2, none⟩ (.bool false)).setCell ⟨g, i * 5 + 3, none⟩ (.bool false)).setCell ⟨g, i * 5 + 4, none⟩ (.int .i64 x.n)) g cur m its (i + 1) (t + 1) := by
  obtain ⟨cur', q1, q2, q3, q4⟩ := h.row
  have hlt := h.lt
  have e : kept m (its.take (t + 1)) = kept m (its.take t) ++ [x] := by rw [kept_snoc m hx, if_neg (by simp [hp])]
  have g1 : W.heap[g]? = some (.cells cur' 70 (0, 0)) := (hb.block g (Array.getElem?_eq_some_iff.1 q1).1).trans q1
  obtain ⟨a, b⟩ := set5_row (p := i * 5) (.float .f64 x.k.lo.bits) (.float .f64 x.k.hi.bits) (.bool false) (.bool false) (.int .i64 x.n) g1
  refine ⟨grown_trans h.grown (grown_trans (grown_row (grown_of_below hb)) a), by rw [e]; simp [← h.at'], by omega, _, b, by simpa [set5] using q2, ?_, ?_⟩
  · rw [e, show (i + 1) * 5 = i * 5 + 5 by omega, set5_take _ _ _ _ _ (by omega), q3]
    unfold itCells
    rw [List.flatMap_append]; rfl
  · have := congrArg (List.drop 5) q4
    rw [List.drop_drop, List.drop_drop] at this
    rw [set5_drop _ _ _ _ _ (by omega), show (t + 1) * 5 = t * 5 + 5 by omega]
    exact this

set_option maxRecDepth 100000 in
theorem vDelete_row (g c n B : Nat) (m : Int) (its : List ItV) (cur : Array Value) (w : World) (hn : its.length = n) (hlen : n ≤ 64) (hB : B < w.heap.size) (hBg : B ≠ g) (hm : w.cell? ⟨B, 0, none⟩ = some (.int .i64 m)) (hnc : n ≤ c) (hcm : c ≤ 9223372036854775807)
    (hg : w.heap[g]? = some (.cells cur 70 (0, 0))) (hcs : cur.size = c * 5) (htake : cur.toList.take (n * 5) = itCells its) :
    Calls Try.prog 66 #[.slice (some ⟨g, 0, none⟩) n c, .func (.func 67) #[] #[.pointer (some ⟨B, 0, none⟩)]] w fun e W => e = .returned (.slice (some ⟨g, 0, none⟩) (kept m its).length c) ∧ w.grownBy W (some g) ∧
      ∃ cur' : Array Value, W.heap[g]? = some (.cells cur' 70 (0, 0)) ∧ cur'.size = cur.size ∧ cur'.toList.take ((kept m its).length * 5) = itCells (kept m its) := by
  have hgl := (Array.getElem?_eq_some_iff.1 hg).1
  have hrow0 : w.ownsRow 0 70 5 (.slice (some ⟨g, 0, none⟩) n c) n (itCells its) := ⟨by rw [itCells_len, hn], .inr ⟨g, c, cur, rfl, Nat.zero_le _, hg, hnc, by unfold maxLen; omega, hcs, htake⟩⟩
  have H := vIdx_row g c n B m its w hn hlen hB hm hgl (own_cells hrow0 hn)
  cases hi : its.findIdx? fun x => decide (x.n ≤ m) with
  | none =>
    have e : idxB (fun x : ItV => decide (x.n ≤ m)) its = -1 := by unfold idxB; rw [hi]
    rw [e] at H
    have hk : kept m its = its := by
      unfold kept
      rw [List.filter_eq_self]
      intro x hx
      have := List.findIdx?_eq_none_iff.1 hi x hx
      simp at this ⊢; omega
    rw [hk, hn]
    have fin : ∀ W, Below w.heap.size w W → w.grownBy W (some g) ∧ ∃ cur' : Array Value, W.heap[g]? = some (.cells cur' 70 (0, 0)) ∧ cur'.size = cur.size ∧ cur'.toList.take (n * 5) = itCells its := fun W hb =>
      ⟨grown_row (grown_of_below hb), cur, (hb.block g hgl).trans hg, rfl, htake⟩
    have hfin := hid fin
    clear fin hk hi e htake hcs hg hm hn hrow0
    go_enter Try.func66, Try.ntmps66
    go_wp2_with (go_at_call 89; (with_reducible refine (H).mono ?_); rintro e w1 ⟨rfl, hb1⟩; obtain ⟨hc1, hf1⟩ := bcell hb1; (try simp only [World.heap_drewN, World.cell?_drewN, World.frozen?_drewN] at hc1 hf1); have hz1 := hb1.size; (try simp at hz1); (try have hy1_0 : w.heap.size < w1.heap.size := by omega); (try have hy1_1 : w.heap.size + 1 < w1.heap.size := by omega); (try have hy1_2 : w.heap.size + 2 < w1.heap.size := by omega); (try have hy1_3 : w.heap.size + 3 < w1.heap.size := by omega); (try have hx1_0 : w.heap.size ≤ w1.heap.size := by omega); (try have hx1_1 : w.heap.size + 1 ≤ w1.heap.size := by omega); (try have hx1_2 : w.heap.size + 2 ≤ w1.heap.size := by omega))
    go_ret
    exact ⟨rfl, hfin.out _ (by (repeat (first | with_reducible exact Below.refl _ _ | ((with_reducible refine Below.alloc1 ?_ ?_ _); (· first | omega | (simp; done) | (simp; omega))) | (with_reducible refine Below.drew ?_) | (with_reducible refine below_drewN' ?_ _) | ((with_reducible refine Below.setCell1 ?_ ?_ _); (· first | omega | (simp; done) | (simp; omega))) | ((with_reducible refine Below.after (by assumption) ?_ ?_); (· first | omega | (simp; done) | (simp; omega))))))⟩
  | some k =>
    obtain ⟨hkl, hkp, hkf⟩ := List.findIdx?_eq_some_iff_getElem.1 hi
    have e : idxB (fun x : ItV => decide (x.n ≤ m)) its = k := by unfold idxB; rw [hi]
    rw [e] at H
    have hkn : k < n := by omega
    have hke : ((k : Int) == -1) = false := by first | (simp; done) | (simp; omega)
    have hmid : ∀ W, Below w.heap.size w W → DelMid w W g cur m its k (k + 1) := fun W hb => by
      have ek : kept m (its.take k) = its.take k := by
        unfold kept
        rw [List.filter_eq_self]
        intro x hx
        obtain ⟨j, hj, rfl⟩ := List.getElem_of_mem hx
        have hj' : j < k := by simpa using (Nat.lt_of_lt_of_le hj (by simp; omega))
        have := hkf j hj'
        simpa using this
      have ek1 : kept m (its.take (k + 1)) = its.take k := by rw [kept_snoc m (List.getElem?_eq_getElem hkl), ek, if_pos hkp, List.append_nil]
      refine ⟨grown_row (grown_of_below hb), by have := congrArg List.length ek1; rw [List.length_take] at this; omega, by omega, cur, (hb.block g hgl).trans hg, rfl, ?_, rfl⟩
      rw [ek1, ← flat_take_it, ← htake, List.take_take, Nat.min_eq_left (by omega)]
    have Hmid := hid hmid
    have HT := hid htake; have HG := hid hg; have HN := hid hn; have HS := hid hcs; have HM := hid hm
    clear hmid hi e hkp hkf htake hg hn hrow0 hm hkl
    go_enter Try.func66, Try.ntmps66
    go_wp2_with (go_at_call 89; (with_reducible refine (H).mono ?_); rintro e w1 ⟨rfl, hb1⟩; obtain ⟨hc1, hf1⟩ := bcell hb1; (try simp only [World.heap_drewN, World.cell?_drewN, World.frozen?_drewN] at hc1 hf1); have hz1 := hb1.size; (try simp at hz1); (try have hy1_0 : w.heap.size < w1.heap.size := by omega); (try have hy1_1 : w.heap.size + 1 < w1.heap.size := by omega); (try have hy1_2 : w.heap.size + 2 < w1.heap.size := by omega); (try have hy1_3 : w.heap.size + 3 < w1.heap.size := by omega); (try have hx1_0 : w.heap.size ≤ w1.heap.size := by omega); (try have hx1_1 : w.heap.size + 1 ≤ w1.heap.size := by omega); (try have hx1_2 : w.heap.size + 2 ≤ w1.heap.size := by omega))
    go_loopw [5, 6] (fun iv tv wr => ∃ i t : Nat, iv = .int .i64 i ∧ tv = .int .i64 t ∧ t ≤ n ∧ DelMid w wr g cur m its i t) (fun _ tv _ => n - (intOf tv).toNat)
    case atStart => exact ⟨k, k + 1, rfl, by first | rfl | go_num, by omega, Hmid.out _ (by (repeat (first | with_reducible exact Below.refl _ _ | ((with_reducible refine Below.alloc1 ?_ ?_ _); (· first | omega | (simp; done) | (simp; omega))) | (with_reducible refine Below.drew ?_) | (with_reducible refine below_drewN' ?_ _) | ((with_reducible refine Below.setCell1 ?_ ?_ _); (· first | omega | (simp; done) | (simp; omega))) | ((with_reducible refine Below.after (by assumption) ?_ ?_); (· first | omega | (simp; done) | (simp; omega))))))⟩
    case round =>
      obtain ⟨i, t, rfl, rfl, htn, hd⟩ := hrel
      obtain ⟨cur', q1, q2, q3, q4⟩ := hd.row
      have hit := hd.lt
      have hgr := hd.grown
      have hsz := hgr.size
      have hgw := (Array.getElem?_eq_some_iff.1 q1).1
      have cB : wr.cell? ⟨B, 0, none⟩ = some (.int .i64 m) := hgr.cell HM.out (by simpa using hBg)
      have hBw : B < wr.heap.size := by omega
      by_cases hlt : t < n
      · have htl : t < its.length := by rw [HN.out]; exact hlt
        have hlt' : (t : Int) < (n : Int) := by omega
        have hkx := hid (it_some htl)
        have cc : ∀ j, j < 5 → wr.cell? ⟨g, t * 5 + j, none⟩ = (itCells its)[t * 5 + j]? := fun j hj => by
          rw [cell_row q1, ← HT.out, List.getElem?_take, if_pos (by omega)]
          have h1 : (cur'.toList.drop (t * 5))[j]? = (cur.toList.drop (t * 5))[j]? := by rw [q4]
          rw [List.getElem?_drop, List.getElem?_drop] at h1
          simpa using h1
        have d0 := (cc 0 (by omega)).trans (flat_get ItV.enc_len hkx.out (j := 0) (by omega))
        have d1 := (cc 1 (by omega)).trans (flat_get ItV.enc_len hkx.out (j := 1) (by omega))
        have d2 := (cc 2 (by omega)).trans (flat_get ItV.enc_len hkx.out (j := 2) (by omega))
        have d3 := (cc 3 (by omega)).trans (flat_get ItV.enc_len hkx.out (j := 3) (by omega))
        have d4 := (cc 4 (by omega)).trans (flat_get ItV.enc_len hkx.out (j := 4) (by omega))
        simp only [Nat.add_zero, ItV.enc, List.getElem?_cons_zero, List.getElem?_cons_succ] at d0 d1 d2 d3 d4
        clear cc
        generalize its[t]?.getD default = x at *
        obtain ⟨z0, s0'⟩ := Option.isSome_iff_exists.1 (show (wr.cell? ⟨g, i * 5 + 0, none⟩).isSome = true by rw [cell_row q1, Array.getElem?_eq_getElem (by omega)]; rfl)
        obtain ⟨z1, s1'⟩ := Option.isSome_iff_exists.1 (show (wr.cell? ⟨g, i * 5 + 1, none⟩).isSome = true by rw [cell_row q1, Array.getElem?_eq_getElem (by omega)]; rfl)
        obtain ⟨z2, s2'⟩ := Option.isSome_iff_exists.1 (show (wr.cell? ⟨g, i * 5 + 2, none⟩).isSome = true by rw [cell_row q1, Array.getElem?_eq_getElem (by omega)]; rfl)
        obtain ⟨z3, s3'⟩ := Option.isSome_iff_exists.1 (show (wr.cell? ⟨g, i * 5 + 3, none⟩).isSome = true by rw [cell_row q1, Array.getElem?_eq_getElem (by omega)]; rfl)
        obtain ⟨z4, s4'⟩ := Option.isSome_iff_exists.1 (show (wr.cell? ⟨g, i * 5 + 4, none⟩).isSome = true by rw [cell_row q1, Array.getElem?_eq_getElem (by omega)]; rfl)
        rw [Nat.add_zero] at s0'
        have fz : ∀ j, wr.frozen? ⟨g, j, none⟩ = false := fun j => by simp [World.frozen?, q1]
        have fz0 := fz (i * 5); have fz1 := fz (i * 5 + 1); have fz2 := fz (i * 5 + 2); have fz3 := fz (i * 5 + 3); have fz4 := fz (i * 5 + 4)
        have hti : (i : Int) < (n : Int) := by omega
        have hskip := hid fun W hb hp => hd.skip (W := W) hkx.out hp hb
        have hkeep := hid fun W hb hp => hd.keep (W := W) hkx.out hp hb (by omega)
        have HH := fun W hB hc => vDrop1_any x.k x.n m B W hB hc
        clear fz q1 q3 q4 hd
        cases hp : decide (x.n ≤ m)
        · rw [hp] at HH
          have HP := hid hp
          clear hp
          go_wp2_with (go_at_call 67; (with_reducible refine (HH _ (lt_alloc1 hBw) (by go_simp)).mono ?_); rintro e w1 ⟨rfl, hb1⟩; obtain ⟨hc1, hf1⟩ := bcell hb1; (try simp only [World.heap_drewN, World.cell?_drewN, World.frozen?_drewN] at hc1 hf1); have hz1 := hb1.size; (try simp at hz1); (try have hy1_0 : w.heap.size < w1.heap.size := by omega); (try have hy1_1 : w.heap.size + 1 < w1.heap.size := by omega); (try have hy1_2 : w.heap.size + 2 < w1.heap.size := by omega); (try have hy1_3 : w.heap.size + 3 < w1.heap.size := by omega); (try have hx1_0 : w.heap.size ≤ w1.heap.size := by omega); (try have hx1_1 : w.heap.size + 1 ≤ w1.heap.size := by omega); (try have hx1_2 : w.heap.size + 2 ≤ w1.heap.size := by omega))
          go_roundw
          case rel => exact ⟨i + 1, t + 1, by go_num, by go_num, by omega, hkeep.out _ (by (repeat (first | with_reducible exact Below.refl _ _ | ((with_reducible refine Below.alloc1 ?_ ?_ _); (· first | omega | (simp; done) | (simp; omega))) | (with_reducible refine Below.drew ?_) | (with_reducible refine below_drewN' ?_ _) | ((with_reducible refine Below.setCell1 ?_ ?_ _); (· first | omega | (simp; done) | (simp; omega))) | ((with_reducible refine Below.after (by assumption) ?_ ?_); (· first | omega | (simp; done) | (simp; omega)))))) HP.out⟩
          case measure => simp [intOf]; omega
        · rw [hp] at HH
          have HP := hid hp
          clear hp
          go_wp2_with (go_at_call 67; (with_reducible refine (HH _ (lt_alloc1 hBw) (by go_simp)).mono ?_); rintro e w1 ⟨rfl, hb1⟩; obtain ⟨hc1, hf1⟩ := bcell hb1; (try simp only [World.heap_drewN, World.cell?_drewN, World.frozen?_drewN] at hc1 hf1); have hz1 := hb1.size; (try simp at hz1); (try have hy1_0 : w.heap.size < w1.heap.size := by omega); (try have hy1_1 : w.heap.size + 1 < w1.heap.size := by omega); (try have hy1_2 : w.heap.size + 2 < w1.heap.size := by omega); (try have hy1_3 : w.heap.size + 3 < w1.heap.size := by omega); (try have hx1_0 : w.heap.size ≤ w1.heap.size := by omega); (try have hx1_1 : w.heap.size + 1 ≤ w1.heap.size := by omega); (try have hx1_2 : w.heap.size + 2 ≤ w1.heap.size := by omega))
          go_roundw
          case rel => exact ⟨i, t + 1, rfl, by go_num, by omega, hskip.out _ (by (repeat (first | with_reducible exact Below.refl _ _ | ((with_reducible refine Below.alloc1 ?_ ?_ _); (· first | omega | (simp; done) | (simp; omega))) | (with_reducible refine Below.drew ?_) | (with_reducible refine below_drewN' ?_ _) | ((with_reducible refine Below.setCell1 ?_ ?_ _); (· first | omega | (simp; done) | (simp; omega))) | ((with_reducible refine Below.after (by assumption) ?_ ?_); (· first | omega | (simp; done) | (simp; omega)))))) HP.out⟩
          case measure => simp [intOf]; omega
      · obtain rfl : t = n := by omega
        have hik : i = (kept m its).length := by rw [hd.at', List.take_of_length_le (by rw [HN.out]; exact Nat.le_refl _)]
        have hclr := run_clear_row (P := Try.prog) wr 67 70 (.agg #[.float .f64 0, .float .f64 0, .bool false, .bool false, .int .i64 0]) 5 Try.underlying67 Try.zeroValue70 rfl (by intro u hu; simp [Value.cells] at hu; rcases hu with rfl | rfl | rfl | rfl | rfl <;> rfl) g (i * 5) (t - i) (c - i) cur' _ q1 (by omega) (by omega)
        obtain ⟨R, hR⟩ : ∃ R : Array Value, R = (cur'.toList.take (i * 5) ++ (Builtin.zeroCells (Value.agg #[.float .f64 0, .float .f64 0, .bool false, .bool false, .int .i64 0]).cells (t - i)).toList ++ cur'.toList.drop (i * 5 + (t - i) * 5)).toArray := ⟨_, rfl⟩
        rw [← hR] at hclr
        have fin : w.grownBy (wr.setRow g R) (some g) ∧ ∃ cur'' : Array Value, (wr.setRow g R).heap[g]? = some (.cells cur'' 70 (0, 0)) ∧ cur''.size = cur.size ∧ cur''.toList.take ((kept m its).length * 5) = itCells (kept m its) := by
          have hzl : (Builtin.zeroCells (Value.agg #[.float .f64 0, .float .f64 0, .bool false, .bool false, .int .i64 0]).cells (t - i)).toList.length = (t - i) * 5 := by rw [Array.length_toList, size_zeroCells]; rfl
          refine ⟨grown_trans hgr (grownBy_setRow _ _ _), R, setRow_heap wr g cur' _ _ _ q1, ?_, ?_⟩
          · rw [hR]; simp only [List.size_toArray, List.length_append, List.length_take, List.length_drop, hzl, Array.length_toList, q2]; omega
          · rw [hR, ← hik]
            simp only [List.append_assoc]
            have hl : (cur'.toList.take (i * 5)).length = i * 5 := by rw [List.length_take, Array.length_toList, q2]; omega
            rw [List.take_append_of_le_length (by omega), List.take_take, Nat.min_self, q3, List.take_of_length_le (by rw [HN.out]; exact Nat.le_refl _)]
        have hfin := hid fin
        have HIK := hid hik
        have hci : ¬ (c = i) := by omega
        have hti : i ≤ t := by omega
        clear fin hR q1 q2 q3 q4 hd hik cB
        go_wp2
        go_ret
        exact ⟨by rw [← HIK.out]; rfl, hfin.out⟩
end Go.Proofs.Ytnlaepogkepnhaa.Q
