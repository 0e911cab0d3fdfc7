/- The table of layer 9: Drop. -/
import Derived.Test.YtnlaepogkepnhaaVW
import Derived.Test.YtnlaepogkepnhaaIdx
namespace Go.Proofs.Ytnlaepogkepnhaa
set_option linter.unusedVariables false
open Go.RowKit Fl

theorem lt_alloc1 {b : Nat} {w : World} {o : Obj} (h : b < w.heap.size) : b < (w.alloc o).heap.size := by simp; omega

theorem vDrop1_any (kb : Nat) (n m : Int) (B : Nat) (w : World) (hB : B < w.heap.size) (hc : w.cell? ⟨B, 0, none⟩ = some (.int .i64 m)) :
    Calls Try.prog 54 #[.agg #[.float .f64 kb, .int .i64 n], .pointer (some ⟨B, 0, none⟩)] w (Ret (.bool (decide (n ≤ m))) w) := by
  go_enter Try.func54, Try.ntmps54
  go_wp2
  go_ret
  exact ⟨rfl, by (repeat (first | with_reducible exact Below.refl _ _ | ((with_reducible refine Below.alloc1 ?_ ?_ _); (· first | omega | (simp; done) | (simp; omega))) | (with_reducible refine Below.drew ?_) | (with_reducible refine below_drewN' ?_ _) | ((with_reducible refine Below.setCell1 ?_ ?_ _); (· first | omega | (simp; done) | (simp; omega))) | ((with_reducible refine Below.after (by assumption) ?_ ?_); (· first | omega | (simp; done) | (simp; omega)))))⟩

theorem vIdx_row (b c n B : Nat) (m : Int) (its : List ItV) (w : World) (hn : its.length = n) (hlen : n ≤ 64) (hB : B < w.heap.size) (hm : w.cell? ⟨B, 0, none⟩ = some (.int .i64 m))
    (hb : b < w.heap.size) (hc : ∀ i, i < its.length → w.cell? ⟨b, i * 2, none⟩ = some (.float .f64 (its[i]?.getD default).k.bits) ∧ w.cell? ⟨b, i * 2 + 1, none⟩ = some (.int .i64 (its[i]?.getD default).n)) :
    Calls Try.prog 82 #[.slice (some ⟨b, 0, none⟩) n c, .func (.func 54) #[] #[.pointer (some ⟨B, 0, none⟩)]] w (Ret (.int .i64 (idxB (fun x => decide (x.n ≤ m)) its)) w) := by
  have HC := hid hc; have HN := hid hn; have HM := hid hm
  clear hc hn hm
  go_enter Try.func82, Try.ntmps82
  go_wp2
  go_loopw [8] (fun i wr => ∃ k : Nat, k ≤ n ∧ i = .int .i64 k ∧ Hid (∀ j : Nat, j < k → ∀ y, its[j]? = some y → decide (y.n ≤ m) = false) ∧ Below w.heap.size w wr) (fun i _ => n - (intOf i).toNat)
  case atStart => exact ⟨0, Nat.zero_le _, rfl, hid fun j hj => absurd hj (Nat.not_lt_zero _), Below.refl _ _⟩
  case round =>
    obtain ⟨k, hk, rfl, HR, hbw⟩ := hrel
    have hsz := hbw.size
    by_cases hlt : k < n
    · obtain ⟨c0, c1⟩ := HC.out k (by rw [HN.out]; exact hlt)
      have hlt' : (k : Int) < (n : Int) := by omega
      have hkx := hid (it_some (its := its) (k := k) (by rw [HN.out]; exact hlt))
      have d0 := (hbw.cell (p := ⟨b, _, none⟩) hb).trans c0
      have d1 := (hbw.cell (p := ⟨b, _, none⟩) hb).trans c1
      have dm := (hbw.cell (p := ⟨B, 0, none⟩) hB).trans HM.out
      clear c0 c1
      generalize its[k]?.getD default = x at *
      have hBw : B < wr.heap.size := by omega
      have H := vDrop1_any x.k.bits x.n m B wr hBw dm
      clear dm
      cases hp : decide (x.n ≤ m)
      · rw [hp] at H
        have HP := hid hp
        clear hp
        go_wp2_with (go_at_call 54; (with_reducible refine (H).mono ?_); rintro e w1 ⟨rfl, hb1⟩; obtain ⟨hc1, hf1⟩ := bcell hb1; (try simp only [World.heap_drewN, World.cell?_drewN, World.frozen?_drewN] at hc1 hf1); have hz1 := hb1.size; (try simp at hz1); (try have hy1_0 : w.heap.size < w1.heap.size := by omega); (try have hy1_1 : w.heap.size + 1 < w1.heap.size := by omega); (try have hy1_2 : w.heap.size + 2 < w1.heap.size := by omega); (try have hy1_3 : w.heap.size + 3 < w1.heap.size := by omega); (try have hx1_0 : w.heap.size ≤ w1.heap.size := by omega); (try have hx1_1 : w.heap.size + 1 ≤ w1.heap.size := by omega); (try have hx1_2 : w.heap.size + 2 ≤ w1.heap.size := by omega))
        go_roundw
        case rel => exact ⟨k + 1, by omega, by go_num, hid fun j hj y hy => by
            by_cases h : j < k
            · exact HR.out j h y hy
            · obtain rfl : j = k := by omega
              rw [hkx.out] at hy; cases hy; exact HP.out, by (repeat (first | with_reducible exact Below.refl _ _ | ((with_reducible refine Below.alloc1 ?_ ?_ _); (· first | omega | (simp; done) | (simp; omega))) | (with_reducible refine Below.drew ?_) | (with_reducible refine below_drewN' ?_ _) | ((with_reducible refine Below.setCell1 ?_ ?_ _); (· first | omega | (simp; done) | (simp; omega))) | ((with_reducible refine Below.after (by assumption) ?_ ?_); (· first | omega | (simp; done) | (simp; omega)))))⟩
        case measure => simp [intOf]; omega
      · rw [hp] at H
        have HP := hid hp
        clear hp
        go_wp2_with (go_at_call 54; (with_reducible refine (H).mono ?_); rintro e w1 ⟨rfl, hb1⟩; obtain ⟨hc1, hf1⟩ := bcell hb1; (try simp only [World.heap_drewN, World.cell?_drewN, World.frozen?_drewN] at hc1 hf1); have hz1 := hb1.size; (try simp at hz1); (try have hy1_0 : w.heap.size < w1.heap.size := by omega); (try have hy1_1 : w.heap.size + 1 < w1.heap.size := by omega); (try have hy1_2 : w.heap.size + 2 < w1.heap.size := by omega); (try have hy1_3 : w.heap.size + 3 < w1.heap.size := by omega); (try have hx1_0 : w.heap.size ≤ w1.heap.size := by omega); (try have hx1_1 : w.heap.size + 1 ≤ w1.heap.size := by omega); (try have hx1_2 : w.heap.size + 2 ≤ w1.heap.size := by omega))
        go_ret
        exact ⟨ret_int (by rw [idxB_some (p := fun x : ItV => decide (x.n ≤ m)) hkx.out HP.out HR.out]), by (repeat (first | with_reducible exact Below.refl _ _ | ((with_reducible refine Below.alloc1 ?_ ?_ _); (· first | omega | (simp; done) | (simp; omega))) | (with_reducible refine Below.drew ?_) | (with_reducible refine below_drewN' ?_ _) | ((with_reducible refine Below.setCell1 ?_ ?_ _); (· first | omega | (simp; done) | (simp; omega))) | ((with_reducible refine Below.after (by assumption) ?_ ?_); (· first | omega | (simp; done) | (simp; omega)))))⟩
    · obtain rfl : k = n := by omega
      go_wp2
      go_ret
      refine ⟨ret_int ?_, by (repeat (first | with_reducible exact Below.refl _ _ | ((with_reducible refine Below.alloc1 ?_ ?_ _); (· first | omega | (simp; done) | (simp; omega))) | (with_reducible refine Below.drew ?_) | (with_reducible refine below_drewN' ?_ _) | ((with_reducible refine Below.setCell1 ?_ ?_ _); (· first | omega | (simp; done) | (simp; omega))) | ((with_reducible refine Below.after (by assumption) ?_ ?_); (· first | omega | (simp; done) | (simp; omega)))))⟩
      rw [idxB_none]
      intro i x hx
      refine HR.out i ?_ x hx
      have := (List.getElem?_eq_some_iff.1 hx).1
      have := HN.out
      omega

/-- Who stays. -/
def kept (m : Int) (its : List ItV) : List ItV := its.filter fun x => !decide (x.n ≤ m)

theorem flat_take_it (its : List ItV) (k : Nat) : (itCells its).take (k * 2) = itCells (its.take k) := flat_take ItV.enc_len its k
theorem kept_snoc (m : Int) {its : List ItV} {t : Nat} {x : ItV} (hx : its[t]? = some x) : kept m (its.take (t + 1)) = kept m (its.take t) ++ (if decide (x.n ≤ m) = true then [] else [x]) := by
  unfold kept
  rw [List.take_add_one, hx, List.filter_append]
  congr 1
  by_cases h : x.n ≤ m <;> simp [h]

/-- The row in the middle of the deletion: what stays of the first t lies ahead, from t on all is as it was. -/
structure DelMid (w wr : World) (g : Nat) (cur : Array Value) (m : Int) (its : List ItV) (i t : Nat) : Prop where
  grown : w.grownBy wr (some g)
  at' : i = (kept m (its.take t)).length
  lt : i < t
  row : ∃ cur' : Array Value, wr.heap[g]? = some (.cells cur' 41 (0, 0)) ∧ cur'.size = cur.size ∧ cur'.toList.take (i * 2) = itCells (kept m (its.take t)) ∧ cur'.toList.drop (t * 2) = cur.toList.drop (t * 2)

theorem grown_trans {w w1 w2 : World} {r : Option Nat} (h1 : w.grownBy w1 r) (h2 : w1.grownBy w2 r) : w.grownBy w2 r :=
  ⟨h2.os.trans h1.os, h2.tape.trans h1.tape, h2.output.trans h1.output, Nat.le_trans h1.size h2.size, fun k hk hne => (h2.block k (Nat.lt_of_lt_of_le hk h1.size) hne).trans (h1.block k hk hne)⟩
theorem grown_row {w w1 : World} {r : Option Nat} (h : w.grownBy w1 none) : w.grownBy w1 r := ⟨h.os, h.tape, h.output, h.size, fun k hk _ => h.block k hk (by simp)⟩

theorem DelMid.skip {w wr W : World} {g : Nat} {cur : Array Value} {m : Int} {its : List ItV} {i t : Nat} {x : ItV} (h : DelMid w wr g cur m its i t) (hx : its[t]? = some x) (hp : decide (x.n ≤ m) = true) (hb : Below wr.heap.size wr W) : DelMid w W g cur m its i (t + 1) := by
  obtain ⟨cur', q1, q2, q3, q4⟩ := h.row
  have e : kept m (its.take (t + 1)) = kept m (its.take t) := by rw [kept_snoc m hx, if_pos hp, List.append_nil]
  refine ⟨grown_trans h.grown (grown_row (grown_of_below hb)), by rw [e]; exact h.at', by have := h.lt; omega, cur', (hb.block g (Array.getElem?_eq_some_iff.1 q1).1).trans q1, q2, by rw [e]; exact q3, ?_⟩
  have := congrArg (List.drop 2) q4
  rw [List.drop_drop, List.drop_drop] at this
  rw [show (t + 1) * 2 = t * 2 + 2 by omega]
  exact this

theorem DelMid.keep {w wr W : World} {g : Nat} {cur : Array Value} {m : Int} {its : List ItV} {i t : Nat} {x : ItV} (h : DelMid w wr g cur m its i t) (hx : its[t]? = some x) (hp : decide (x.n ≤ m) = false) (hb : Below wr.heap.size wr W) (hs : t * 2 + 2 ≤ cur.size) :
    DelMid w ((W.setCell ⟨g, i * 2, none⟩ (.float .f64 x.k.bits)).setCell ⟨g, i * 2 + 1, none⟩ (.int .i64 x.n)) g cur m its (i + 1) (t + 1) := by
  obtain ⟨cur', q1, q2, q3, q4⟩ := h.row
  have hlt := h.lt
  have e : kept m (its.take (t + 1)) = kept m (its.take t) ++ [x] := by rw [kept_snoc m hx, if_neg (by simp [hp])]
  have g1 : W.heap[g]? = some (.cells cur' 41 (0, 0)) := (hb.block g (Array.getElem?_eq_some_iff.1 q1).1).trans q1
  have e1 := setCell_eq_setRow W g (i * 2) cur' _ _ (.float .f64 x.k.bits) g1
  have g2 := setRow_heap W g cur' (cur'.setIfInBounds (i * 2) (.float .f64 x.k.bits)) _ _ g1
  have e2 := setCell_eq_setRow (W.setRow g (cur'.setIfInBounds (i * 2) (.float .f64 x.k.bits))) g (i * 2 + 1) _ _ _ (.int .i64 x.n) g2
  rw [e1, e2]
  have g3 := setRow_heap (W.setRow g (cur'.setIfInBounds (i * 2) (.float .f64 x.k.bits))) g _ ((cur'.setIfInBounds (i * 2) (.float .f64 x.k.bits)).setIfInBounds (i * 2 + 1) (.int .i64 x.n)) _ _ g2
  refine ⟨grown_trans h.grown (grown_trans (grown_row (grown_of_below hb)) (grown_trans (grownBy_setRow _ _ _) (grownBy_setRow _ _ _))), by rw [e]; simp [← h.at'], by omega, _, g3, by simpa using q2, ?_, ?_⟩
  · rw [e]
    unfold itCells at *
    rw [List.flatMap_append, ← q3]
    have hl : i * 2 + 1 < cur'.toList.length := by rw [Array.length_toList, q2]; omega
    simp only [Array.toList_setIfInBounds]
    apply List.ext_getElem?
    intro j
    rw [List.getElem?_take, List.getElem?_append, List.length_take, Nat.min_eq_left (by omega)]
    by_cases hj : j < i * 2
    · rw [if_pos (by omega), if_pos hj, List.getElem?_set_ne (by omega), List.getElem?_set_ne (by omega), List.getElem?_take, if_pos hj]
    · rw [if_neg hj]
      by_cases hj0 : j = i * 2
      · subst hj0
        rw [if_pos (by omega), List.getElem?_set_ne (by omega), List.getElem?_set_self (by omega)]
        simp [ItV.enc]
      · by_cases hj1 : j = i * 2 + 1
        · subst hj1
          rw [if_pos (by omega), List.getElem?_set_self (by simpa using hl)]
          simp [ItV.enc]
        · rw [if_neg (by omega), List.getElem?_eq_none (by simp [ItV.enc]; omega)]
  · have := congrArg (List.drop 2) q4
    rw [List.drop_drop, List.drop_drop] at this
    rw [show (t + 1) * 2 = t * 2 + 2 by omega]
    simp only [Array.toList_setIfInBounds]
    rw [List.drop_set_of_lt (by omega), List.drop_set_of_lt (by omega)]
    exact this

set_option maxRecDepth 100000 in
theorem vDelete_row (g c n B : Nat) (m : Int) (its : List ItV) (cur : Array Value) (w : World) (hn : its.length = n) (hlen : n ≤ 64) (hB : B < w.heap.size) (hBg : B ≠ g) (hm : w.cell? ⟨B, 0, none⟩ = some (.int .i64 m)) (hnc : n ≤ c) (hcm : c ≤ 9223372036854775807)
    (hg : w.heap[g]? = some (.cells cur 41 (0, 0))) (hcs : cur.size = c * 2) (htake : cur.toList.take (n * 2) = itCells its) :
    Calls Try.prog 53 #[.slice (some ⟨g, 0, none⟩) n c, .func (.func 54) #[] #[.pointer (some ⟨B, 0, none⟩)]] w fun e W => e = .returned (.slice (some ⟨g, 0, none⟩) (kept m its).length c) ∧ w.grownBy W (some g) ∧
      ∃ cur' : Array Value, W.heap[g]? = some (.cells cur' 41 (0, 0)) ∧ cur'.size = cur.size ∧ cur'.toList.take ((kept m its).length * 2) = itCells (kept m its) := by
  have hgl := (Array.getElem?_eq_some_iff.1 hg).1
  have hrow0 : w.ownsRow 0 41 2 (.slice (some ⟨g, 0, none⟩) n c) n (itCells its) := ⟨by rw [itCells_len, hn], .inr ⟨g, c, cur, rfl, Nat.zero_le _, hg, hnc, by unfold maxLen; omega, hcs, htake⟩⟩
  have H := vIdx_row g c n B m its w hn hlen hB hm hgl (own_cells hrow0 hn)
  cases hi : its.findIdx? fun x => decide (x.n ≤ m) with
  | none =>
    have e : idxB (fun x : ItV => decide (x.n ≤ m)) its = -1 := by unfold idxB; rw [hi]
    rw [e] at H
    have hk : kept m its = its := by
      unfold kept
      rw [List.filter_eq_self]
      intro x hx
      have := List.findIdx?_eq_none_iff.1 hi x hx
      simp at this ⊢; omega
    rw [hk, hn]
    have fin : ∀ W, Below w.heap.size w W → w.grownBy W (some g) ∧ ∃ cur' : Array Value, W.heap[g]? = some (.cells cur' 41 (0, 0)) ∧ cur'.size = cur.size ∧ cur'.toList.take (n * 2) = itCells its := fun W hb =>
      ⟨grown_row (grown_of_below hb), cur, (hb.block g hgl).trans hg, rfl, htake⟩
    have hfin := hid fin
    clear fin hk hi e htake hcs hg hm hn hrow0
    go_enter Try.func53, Try.ntmps53
    go_wp2_with (go_at_call 82; (with_reducible refine (H).mono ?_); rintro e w1 ⟨rfl, hb1⟩; obtain ⟨hc1, hf1⟩ := bcell hb1; (try simp only [World.heap_drewN, World.cell?_drewN, World.frozen?_drewN] at hc1 hf1); have hz1 := hb1.size; (try simp at hz1); (try have hy1_0 : w.heap.size < w1.heap.size := by omega); (try have hy1_1 : w.heap.size + 1 < w1.heap.size := by omega); (try have hy1_2 : w.heap.size + 2 < w1.heap.size := by omega); (try have hy1_3 : w.heap.size + 3 < w1.heap.size := by omega); (try have hx1_0 : w.heap.size ≤ w1.heap.size := by omega); (try have hx1_1 : w.heap.size + 1 ≤ w1.heap.size := by omega); (try have hx1_2 : w.heap.size + 2 ≤ w1.heap.size := by omega))
    go_ret
    exact ⟨rfl, hfin.out _ (by (repeat (first | with_reducible exact Below.refl _ _ | ((with_reducible refine Below.alloc1 ?_ ?_ _); (· first | omega | (simp; done) | (simp; omega))) | (with_reducible refine Below.drew ?_) | (with_reducible refine below_drewN' ?_ _) | ((with_reducible refine Below.setCell1 ?_ ?_ _); (· first | omega | (simp; done) | (simp; omega))) | ((with_reducible refine Below.after (by assumption) ?_ ?_); (· first | omega | (simp; done) | (simp; omega))))))⟩
  | some k =>
    obtain ⟨hkl, hkp, hkf⟩ := List.findIdx?_eq_some_iff_getElem.1 hi
    have e : idxB (fun x : ItV => decide (x.n ≤ m)) its = k := by unfold idxB; rw [hi]
    rw [e] at H
    have hkn : k < n := by omega
    have hke : ((k : Int) == -1) = false := by first | (simp; done) | (simp; omega)
    have hmid : ∀ W, Below w.heap.size w W → DelMid w W g cur m its k (k + 1) := fun W hb => by
      have ek : kept m (its.take k) = its.take k := by
        unfold kept
        rw [List.filter_eq_self]
        intro x hx
        obtain ⟨j, hj, rfl⟩ := List.getElem_of_mem hx
        have hj' : j < k := by simpa using (Nat.lt_of_lt_of_le hj (by simp; omega))
        have := hkf j hj'
        simpa using this
      have ek1 : kept m (its.take (k + 1)) = its.take k := by rw [kept_snoc m (List.getElem?_eq_getElem hkl), ek, if_pos hkp, List.append_nil]
      refine ⟨grown_row (grown_of_below hb), by have := congrArg List.length ek1; rw [List.length_take] at this; omega, by omega, cur, (hb.block g hgl).trans hg, rfl, ?_, rfl⟩
      rw [ek1, ← flat_take_it, ← htake, List.take_take, Nat.min_eq_left (by omega)]
    have Hmid := hid hmid
    have HT := hid htake; have HG := hid hg; have HN := hid hn; have HS := hid hcs; have HM := hid hm
    clear hmid hi e hkp hkf htake hg hn hrow0 hm hkl
    go_enter Try.func53, Try.ntmps53
    go_wp2_with (go_at_call 82; (with_reducible refine (H).mono ?_); rintro e w1 ⟨rfl, hb1⟩; obtain ⟨hc1, hf1⟩ := bcell hb1; (try simp only [World.heap_drewN, World.cell?_drewN, World.frozen?_drewN] at hc1 hf1); have hz1 := hb1.size; (try simp at hz1); (try have hy1_0 : w.heap.size < w1.heap.size := by omega); (try have hy1_1 : w.heap.size + 1 < w1.heap.size := by omega); (try have hy1_2 : w.heap.size + 2 < w1.heap.size := by omega); (try have hy1_3 : w.heap.size + 3 < w1.heap.size := by omega); (try have hx1_0 : w.heap.size ≤ w1.heap.size := by omega); (try have hx1_1 : w.heap.size + 1 ≤ w1.heap.size := by omega); (try have hx1_2 : w.heap.size + 2 ≤ w1.heap.size := by omega))
    go_loopw [5, 6] (fun iv tv wr => ∃ i t : Nat, iv = .int .i64 i ∧ tv = .int .i64 t ∧ t ≤ n ∧ DelMid w wr g cur m its i t) (fun _ tv _ => n - (intOf tv).toNat)
    case atStart => exact ⟨k, k + 1, rfl, by first | rfl | go_num, by omega, Hmid.out _ (by (repeat (first | with_reducible exact Below.refl _ _ | ((with_reducible refine Below.alloc1 ?_ ?_ _); (· first | omega | (simp; done) | (simp; omega))) | (with_reducible refine Below.drew ?_) | (with_reducible refine below_drewN' ?_ _) | ((with_reducible refine Below.setCell1 ?_ ?_ _); (· first | omega | (simp; done) | (simp; omega))) | ((with_reducible refine Below.after (by assumption) ?_ ?_); (· first | omega | (simp; done) | (simp; omega))))))⟩
    case round =>
      obtain ⟨i, t, rfl, rfl, htn, hd⟩ := hrel
      obtain ⟨cur', q1, q2, q3, q4⟩ := hd.row
      have hit := hd.lt
      have hgr := hd.grown
      have hsz := hgr.size
      have hgw := (Array.getElem?_eq_some_iff.1 q1).1
      have cB : wr.cell? ⟨B, 0, none⟩ = some (.int .i64 m) := hgr.cell HM.out (by simpa using hBg)
      have hBw : B < wr.heap.size := by omega
      by_cases hlt : t < n
      · have htl : t < its.length := by rw [HN.out]; exact hlt
        have hlt' : (t : Int) < (n : Int) := by omega
        have hkx := hid (it_some htl)
        have cc : ∀ j, j < 2 → wr.cell? ⟨g, t * 2 + j, none⟩ = (itCells its)[t * 2 + j]? := fun j hj => by
          rw [cell_row q1, ← HT.out, List.getElem?_take, if_pos (by omega)]
          have h1 : (cur'.toList.drop (t * 2))[j]? = (cur.toList.drop (t * 2))[j]? := by rw [q4]
          rw [List.getElem?_drop, List.getElem?_drop] at h1
          simpa using h1
        have d0 := (cc 0 (by omega)).trans (flat_get ItV.enc_len hkx.out (j := 0) (by omega))
        have d1 := (cc 1 (by omega)).trans (flat_get ItV.enc_len hkx.out (j := 1) (by omega))
        simp only [Nat.add_zero, ItV.enc, List.getElem?_cons_zero, List.getElem?_cons_succ] at d0 d1
        clear cc
        generalize its[t]?.getD default = x at *
        have s0 : (wr.cell? ⟨g, i * 2, none⟩).isSome = true := by rw [cell_row q1, Array.getElem?_eq_getElem (by omega)]; rfl
        have s1 : (wr.cell? ⟨g, i * 2 + 1, none⟩).isSome = true := by rw [cell_row q1, Array.getElem?_eq_getElem (by omega)]; rfl
        obtain ⟨z0, s0'⟩ := Option.isSome_iff_exists.1 s0
        obtain ⟨z1, s1'⟩ := Option.isSome_iff_exists.1 s1
        have fz : ∀ j, wr.frozen? ⟨g, j, none⟩ = false := fun j => by simp [World.frozen?, q1]
        have fz0 := fz (i * 2); have fz1 := fz (i * 2 + 1)
        have hti : (i : Int) < (n : Int) := by omega
        have hskip := hid fun W hb hp => hd.skip (W := W) hkx.out hp hb
        have hkeep := hid fun W hb hp => hd.keep (W := W) hkx.out hp hb (by omega)
        have HH := fun W hB hc => vDrop1_any x.k.bits x.n m B W hB hc
        clear fz s0 s1 q1 q3 q4 hd
        cases hp : decide (x.n ≤ m)
        · rw [hp] at HH
          have HP := hid hp
          clear hp
          go_wp2_with (go_at_call 54; (with_reducible refine (HH _ (lt_alloc1 hBw) (by go_simp)).mono ?_); rintro e w1 ⟨rfl, hb1⟩; obtain ⟨hc1, hf1⟩ := bcell hb1; (try simp only [World.heap_drewN, World.cell?_drewN, World.frozen?_drewN] at hc1 hf1); have hz1 := hb1.size; (try simp at hz1); (try have hy1_0 : w.heap.size < w1.heap.size := by omega); (try have hy1_1 : w.heap.size + 1 < w1.heap.size := by omega); (try have hy1_2 : w.heap.size + 2 < w1.heap.size := by omega); (try have hy1_3 : w.heap.size + 3 < w1.heap.size := by omega); (try have hx1_0 : w.heap.size ≤ w1.heap.size := by omega); (try have hx1_1 : w.heap.size + 1 ≤ w1.heap.size := by omega); (try have hx1_2 : w.heap.size + 2 ≤ w1.heap.size := by omega))
          go_roundw
          case rel => exact ⟨i + 1, t + 1, by go_num, by go_num, by omega, hkeep.out _ (by (repeat (first | with_reducible exact Below.refl _ _ | ((with_reducible refine Below.alloc1 ?_ ?_ _); (· first | omega | (simp; done) | (simp; omega))) | (with_reducible refine Below.drew ?_) | (with_reducible refine below_drewN' ?_ _) | ((with_reducible refine Below.setCell1 ?_ ?_ _); (· first | omega | (simp; done) | (simp; omega))) | ((with_reducible refine Below.after (by assumption) ?_ ?_); (· first | omega | (simp; done) | (simp; omega)))))) HP.out⟩
          case measure => simp [intOf]; omega
        · rw [hp] at HH
          have HP := hid hp
          clear hp
          go_wp2_with (go_at_call 54; (with_reducible refine (HH _ (lt_alloc1 hBw) (by go_simp)).mono ?_); rintro e w1 ⟨rfl, hb1⟩; obtain ⟨hc1, hf1⟩ := bcell hb1; (try simp only [World.heap_drewN, World.cell?_drewN, World.frozen?_drewN] at hc1 hf1); have hz1 := hb1.size; (try simp at hz1); (try have hy1_0 : w.heap.size < w1.heap.size := by omega); (try have hy1_1 : w.heap.size + 1 < w1.heap.size := by omega); (try have hy1_2 : w.heap.size + 2 < w1.heap.size := by omega); (try have hy1_3 : w.heap.size + 3 < w1.heap.size := by omega); (try have hx1_0 : w.heap.size ≤ w1.heap.size := by omega); (try have hx1_1 : w.heap.size + 1 ≤ w1.heap.size := by omega); (try have hx1_2 : w.heap.size + 2 ≤ w1.heap.size := by omega))
          go_roundw
          case rel => exact ⟨i, t + 1, rfl, by go_num, by omega, hskip.out _ (by (repeat (first | with_reducible exact Below.refl _ _ | ((with_reducible refine Below.alloc1 ?_ ?_ _); (· first | omega | (simp; done) | (simp; omega))) | (with_reducible refine Below.drew ?_) | (with_reducible refine below_drewN' ?_ _) | ((with_reducible refine Below.setCell1 ?_ ?_ _); (· first | omega | (simp; done) | (simp; omega))) | ((with_reducible refine Below.after (by assumption) ?_ ?_); (· first | omega | (simp; done) | (simp; omega)))))) HP.out⟩
          case measure => simp [intOf]; omega
      · obtain rfl : t = n := by omega
        have hik : i = (kept m its).length := by rw [hd.at', List.take_of_length_le (by rw [HN.out]; exact Nat.le_refl _)]
        have hclr := run_clear_row (P := Try.prog) wr 37 41 (.agg #[.float .f64 0, .int .i64 0]) 2 Try.underlying37 Try.zeroValue41 rfl (by intro u hu; simp [Value.cells] at hu; rcases hu with rfl | rfl <;> rfl) g (i * 2) (t - i) (c - i) cur' _ q1 (by omega) (by omega)
        obtain ⟨R, hR⟩ : ∃ R : Array Value, R = (cur'.toList.take (i * 2) ++ (Builtin.zeroCells (Value.agg #[.float .f64 0, .int .i64 0]).cells (t - i)).toList ++ cur'.toList.drop (i * 2 + (t - i) * 2)).toArray := ⟨_, rfl⟩
        rw [← hR] at hclr
        have fin : w.grownBy (wr.setRow g R) (some g) ∧ ∃ cur'' : Array Value, (wr.setRow g R).heap[g]? = some (.cells cur'' 41 (0, 0)) ∧ cur''.size = cur.size ∧ cur''.toList.take ((kept m its).length * 2) = itCells (kept m its) := by
          have hzl : (Builtin.zeroCells (Value.agg #[.float .f64 0, .int .i64 0]).cells (t - i)).toList.length = (t - i) * 2 := by rw [Array.length_toList, size_zeroCells]; rfl
          refine ⟨grown_trans hgr (grownBy_setRow _ _ _), R, setRow_heap wr g cur' _ _ _ q1, ?_, ?_⟩
          · rw [hR]; simp only [List.size_toArray, List.length_append, List.length_take, List.length_drop, hzl, Array.length_toList, q2]; omega
          · rw [hR, ← hik]
            simp only [List.append_assoc]
            have hl : (cur'.toList.take (i * 2)).length = i * 2 := by rw [List.length_take, Array.length_toList, q2]; omega
            rw [List.take_append_of_le_length (by omega), List.take_take, Nat.min_self, q3, List.take_of_length_le (by rw [HN.out]; exact Nat.le_refl _)]
        have hfin := hid fin
        have HIK := hid hik
        have hci : ¬ (c = i) := by omega
        have hti : i ≤ t := by omega
        clear fin hR q1 q2 q3 q4 hd hik cB
        go_wp2
        go_ret
        exact ⟨by rw [← HIK.out]; rfl, hfin.out⟩
end Go.Proofs.Ytnlaepogkepnhaa
