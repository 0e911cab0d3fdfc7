/- Several texts as one: TV TO TP. -/
import Derived.Test.YtekmadgacepdfaaGreatMTJ
import Derived.Test.YtekmadgacepdfaaGreatMUD
import Derived.Test.YtekmadgacepdfaaGreatMTM
namespace Go.Proofs.YtekmadgacepdfaaGreat.T
set_option linter.unusedVariables false
open Go.RowKit Fl Go.Maps Go.Sort Go.Shelf
set_option linter.unusedSimpArgs false

set_option maxRecDepth 100000 in
set_option maxHeartbeats 2000000 in
/-- The iterator over a row of numbers, where the caller's rounds leave what lay there. -/
theorem values1_in (m l Bx c n : Nat) (a : Option Addr) (xs : List Int) (J : List Int → World → Prop) (w W : World) (hn : xs.length = n) (hm : 1 ≤ m) (hBx : w.cell? ⟨Bx, 0, none⟩ = some (.slice a n c)) (hlt : Bx < w.heap.size) (hx : NAt w a xs)
  (hJb : ∀ pre W', J pre W' → Below w.heap.size w W')
  (hY : ∀ pre x W1, J pre W1 → pre.length < n → YieldAt Fence.wide (m - 1) Tryz.prog l #[encZ x] W1 fun e W' => e = .returned (.bool true) ∧ J (pre ++ [x]) W' ∧ KeepsWalks W1 W') (h0 : J [] W) :
  CallsIn Fence.wide m Tryz.prog 108 #[.func (.yield l) #[] #[], .pointer (some ⟨Bx, 0, none⟩)] W fun e W' => (∃ v, e = .returned v) ∧ J xs W' := by
 have c0 := ((hJb [] W h0).cell (p := ⟨Bx, 0, none⟩) hlt).trans hBx
 have hsz := (hJb [] W h0).size
 have hlW : Bx < W.heap.size := by omega
 obtain ⟨hrow, hmx⟩ := hx
 rw [hn] at hmx
 unfold maxLen at hmx
 have HN := hid hn
 have HJB := hid hJb
 have HY := hid hY
 have HROW := hid hrow
 clear hn hJb hY hrow hBx
 refine callsIn_of_wp Tryz.func108 rfl trivial ?_ rfl
 simp only [Tryz.ntmps108, List.size_toArray, List.length_cons, List.length_nil, Nat.reduceAdd, Nat.reduceSub, Array.replicate_succ, Array.replicate_zero, List.push_toArray, List.append_toArray, List.nil_append, List.cons_append]
 gi_wp2_with gi_in
 gi_loopw [7] (fun t7 wr => ∃ k : Nat, t7 = .int .i64 (k : Nat) ∧ k ≤ n ∧ J (xs.take k) wr) (fun t7 _ => n - (intOf t7).toNat)
 case atStart => exact ⟨0, rfl, Nat.zero_le _, h0⟩
 case round =>
  obtain ⟨k, rfl, hk, hJk⟩ := hrel
  by_cases hlk : k < n
  ·have hlk' : (k : Int) < (n : Int) := by omega
   have hkl : k < xs.length := by rw [HN.out]; exact hlk
   have hb := HJB.out _ _ hJk
   rcases HROW.out with h1 | ⟨b, o, ha, hbl, hc⟩
   ·rw [h1] at hkl; simp at hkl
   subst ha
   have d0 := (hb.cell (p := ⟨b, o + k, none⟩) hbl).trans (hc k hkl)
   have hbr : b < wr.heap.size := Nat.lt_of_lt_of_le hbl hb.size
   have htk : xs.take (k + 1) = xs.take k ++ [xs[k]?.getD 0] := by rw [List.take_add_one, List.getElem?_eq_getElem hkl]; rfl
   have HTK := hid htk
   obtain ⟨fn, tmps, assign, body, hy, hR⟩ := HY.out (xs.take k) (xs[k]?.getD 0) wr hJk (by rw [List.length_take]; omega)
   clear htk hc hkl hb
   generalize xs[k]?.getD 0 = x at *
   unfold encZ at hy
   gi_wp2
   refine hR.mono ?_
   rintro e W3 ⟨rfl, hJ3, hk3⟩
   have HJ3 : J (xs.take (k + 1)) W3 := by rw [HTK.out]; exact hJ3
   gi_wp2
   go_roundw
   case rel => exact ⟨k + 1, by go_num, by omega, HJ3⟩
   case measure => simp [intOf]; omega
  ·obtain rfl : k = n := by omega
   have hge : ¬ (k : Int) < (k : Int) := by omega
   have hall : xs.take k = xs := by rw [← HN.out]; exact List.take_length
   rw [hall] at hJk
   gi_wp2
   go_end0
   exact ⟨⟨_, rfl⟩, hJk⟩
/-- What AppendSeq keeps between two rounds. -/
abbrev ApV (w : World) (Bx Bs l D : Nat) (fn : FuncId) : List Int → World → Prop := AnyZI.ApAt sortedI_ren w fn (.func (.func 108) #[] #[.pointer (some ⟨Bx, 0, none⟩)]) Bs l D
set_option maxRecDepth 100000 in
set_option maxHeartbeats 4000000 in
/-- AppendSeq over the numbers of a row. -/
theorem appendV_in (m Bx c n : Nat) (a : Option Addr) (xs : List Int) (w : World) (hm : 2 ≤ m) (hn : xs.length = n) (hn7 : n ≤ 1000000) (hBx : w.cell? ⟨Bx, 0, none⟩ = some (.slice a n c)) (hlt : Bx < w.heap.size) (hx : NAt w a xs) :
  CallsIn Fence.wide m Tryz.prog 129 #[.slice none 0 0, .func (.func 108) #[] #[.pointer (some ⟨Bx, 0, none⟩)]] w fun e w' => ∃ v, e = .returned v ∧ w'.ownsRow w.heap.size 2 1 v xs.length (xs.map encZ) ∧ (v = .slice none 0 0 ↔ xs = []) ∧ Below w.heap.size w w' := by
 have h1 : 1 ≤ m := by omega
 have eg := enters_of Tryz.func108 (by kernel_rfl) rfl
 have hne : (50 : TypeId) ≠ 2 := by decide
 refine callsIn_of_wp_marks Tryz.func129 rfl trivial ?_ rfl
 simp only [Tryz.ntmps129, List.size_toArray, List.length_cons, List.length_nil, Nat.reduceAdd, Nat.reduceSub, Array.replicate_succ, Array.replicate_zero, List.push_toArray, List.append_toArray, List.nil_append, List.cons_append]
 gi_wp2
 refine wpIn_rangeFunc ?_
 intro fn hfn
 obtain ⟨W0, hW0⟩ : ∃ W0, w.alloc (.cells #[.slice none 0 0] 50) = W0 := ⟨_, rfl⟩
 have hs0 : W0.heap.size = w.heap.size + 1 := by rw [← hW0]; simp
 have hv0 : W0.heap[w.heap.size]? = some (.cells #[.slice none 0 0] 50 (0, 0)) := by rw [← hW0]; exact World.alloc_heap_new w _
 have hb0 : Below w.heap.size w W0 := by rw [← hW0]; exact (Below.refl _ w).alloc (Nat.le_refl _) _
 rw [hW0]
 obtain ⟨rec, hrec⟩ : ∃ r, r = AnyZI.apRec sortedI_ren fn (.func (.func 108) #[] #[.pointer (some ⟨Bx, 0, none⟩)]) w.heap.size W0.heap.size .ready none := ⟨_, rfl⟩
 obtain ⟨W1, hW1⟩ : ∃ W1, (W0.alloc (.deferred (some []))).alloc (.loop rec) = W1 := ⟨_, rfl⟩
 have hold : ∀ k, k < W0.heap.size → W1.heap[k]? = W0.heap[k]? := fun k hk => by
  rw [← hW1]; exact (Below.heap_alloc _ _ k (by simp; omega)).trans (Below.heap_alloc _ _ k hk)
 have hb1 : Below w.heap.size w W1 := by rw [← hW1]; exact (hb0.alloc hb0.size _).alloc (by have := hb0.size; simp; omega) _
 have hs1 : W1.heap.size = W0.heap.size + 2 := by rw [← hW1]; simp
 have hM : ApV w Bx w.heap.size (W0.heap.size + 1) W0.heap.size fn [] W1 :=
  ⟨⟨_, (hold w.heap.size (by omega)).trans hv0, ⟨rfl, .inl ⟨rfl, rfl⟩⟩, by simp⟩,
   by rw [← hW1, ← hrec]; have := World.alloc_heap_new (W0.alloc (.deferred (some []))) (.loop rec); rwa [World.size_alloc] at this,
   by rw [← hW1]; exact (Below.heap_alloc _ _ _ (by simp)).trans (World.alloc_heap_new W0 _), hb1⟩
 refine ⟨W0.heap.size + 1, [{ target := .collected W0.heap.size, args := #[] }], W1, { target := .fn (.func 108) #[.pointer (some ⟨Bx, 0, none⟩)], args := #[.func (.yield (W0.heap.size + 1)) #[] #[]] }, W1, 108,
  #[.func (.yield (W0.heap.size + 1)) #[] #[]] ++ #[.pointer (some ⟨Bx, 0, none⟩)], W1, ?_, ?_, ?_, ?_, fun _ => h1, ?_⟩
 ·rw [← hW1, hrec]; exact run_enterLoop_outer _ _ _ _ _
 ·simp [resolve, go_sem]
 ·intro f' hf'; simp [Target.leads] at hf'; subst hf'; exact trivial
 ·simp [invoke, go_sem, eg]
 ·have hV := values1_in (m - 1) (W0.heap.size + 1) Bx c n a xs (ApV w Bx w.heap.size (W0.heap.size + 1) W0.heap.size fn) w W1 hn (by omega) hBx hlt hx (fun _ _ h => h.below)
   (fun pre x W hJ hl => AnyZI.apYield { sortedI with } Fence.wide (m - 1 - 1) w fn hfn _ w.heap.size (W0.heap.size + 1) W0.heap.size (by omega) (by omega) (by omega) (Nat.le_refl _) (by omega) n (by unfold maxLen; omega) (by omega) pre x W hJ hl) hM
  refine hV.mono ?_
  rintro e W2 ⟨⟨v0, rfl⟩, h2⟩
  obtain ⟨v, hv, hrow, hnil⟩ := h2.box
  have hend := run_endLoop (P := Tryz.prog) h2.L (by simp [AnyZI.apRec])
  obtain ⟨W3, hW3⟩ : ∃ W3, W2.putObj (W0.heap.size + 1) (.loop { AnyZI.apRec sortedI_ren fn (.func (.func 108) #[] #[.pointer (some ⟨Bx, 0, none⟩)]) w.heap.size W0.heap.size .ready none with state := .exhausted }) = W3 := ⟨_, rfl⟩
  rw [hW3] at hend
  have hg3 : W2.grownBy W3 (some (W0.heap.size + 1)) := by rw [← hW3]; exact grownBy_putObj_a _ _ _
  have hv3 : W3.heap[w.heap.size]? = some (.cells #[v] 50 (0, 0)) := by rw [← hW3]; exact (World.putObj_heap_other (by omega)).trans hv
  have hK3 : W3.heap[W0.heap.size]? = some (.deferred (some [])) := by rw [← hW3]; exact (World.putObj_heap_other (by omega)).trans h2.K
  have hrow3 := hrow.kept hg3 (ownsRow_ne_a hrow h2.L (fun cur e => by cases e))
  have hb3 : Below w.heap.size w W3 := h2.below.grown hg3 h2.below.size (fun k e => by cases e; omega)
  obtain ⟨hc3, hf3⟩ := cell_of_box_a hv3
  clear hW3
  refine ⟨none, W3, hend, ?_⟩
  gi_wp2
  rw [← hs0]
  refine ⟨by simp, .inl ⟨_, _, rfl, run_takeDeferred hK3, ?_⟩⟩
  exact ⟨_, results_tmp rfl _ _ _, v, rfl, hrow3.kept (grownBy_putObj_a _ _ _) (ownsRow_ne_a hrow3 hK3 (fun cur e => by cases e)), hnil, hb3.grown (grownBy_putObj_a _ _ _) hb3.size (fun k e => by cases e; omega)⟩
set_option maxRecDepth 100000 in
set_option maxHeartbeats 2000000 in
theorem collectV_in (m Bx c n : Nat) (a : Option Addr) (xs : List Int) (w : World) (hm : 3 ≤ m) (hn : xs.length = n) (hn7 : n ≤ 1000000) (hBx : w.cell? ⟨Bx, 0, none⟩ = some (.slice a n c)) (hlt : Bx < w.heap.size) (hx : NAt w a xs) :
  CallsIn Fence.wide m Tryz.prog 84 #[.func (.func 108) #[] #[.pointer (some ⟨Bx, 0, none⟩)]] w fun e w' => ∃ v, e = .returned v ∧ w'.ownsRow w.heap.size 2 1 v xs.length (xs.map encZ) ∧ (v = .slice none 0 0 ↔ xs = []) ∧ Below w.heap.size w w' := by
 have h1 : 1 ≤ m := by omega
 have hA := appendV_in (m - 1) Bx c n a xs w (by omega) hn hn7 hBx hlt hx
 have hfA : Fence.wide.fn 129 := trivial
 clear hBx hx
 refine callsIn_of_wp Tryz.func84 rfl trivial ?_ rfl
 simp only [Tryz.ntmps84, List.size_toArray, List.length_cons, List.length_nil, Nat.reduceAdd, Nat.reduceSub, Array.replicate_succ, Array.replicate_zero, List.push_toArray, List.append_toArray, List.nil_append, List.cons_append]
 gi_wp2_with (gi_at_call 129; refine hA.mono ?_; rintro e w' ⟨v, rfl, hrow, hnil, hb⟩)
 go_ret
 exact ⟨v, rfl, hrow, hnil, hb⟩
set_option maxRecDepth 100000 in
set_option maxHeartbeats 2000000 in
theorem sortedV_in (m Bx c n : Nat) (a : Option Addr) (xs : List Int) (w : World) (hm : 4 ≤ m) (hn : xs.length = n) (hn7 : n ≤ 1000000) (hBx : w.cell? ⟨Bx, 0, none⟩ = some (.slice a n c)) (hlt : Bx < w.heap.size) (hx : NAt w a xs) :
  CallsIn Fence.wide m Tryz.prog 48 #[.func (.func 108) #[] #[.pointer (some ⟨Bx, 0, none⟩)]] w fun e w' => ∃ v, e = .returned v ∧ w'.ownsRow w.heap.size 2 1 v xs.length ((xs.mergeSort (fun x y => decide (x ≤ y))).map encZ) ∧ Below w.heap.size w w' := by
 have h1 : 1 ≤ m := by omega
 have hA := collectV_in (m - 1) Bx c n a xs w (by omega) hn hn7 hBx hlt hx
 have hfA : Fence.wide.fn 84 := trivial
 have hfS : Fence.wide.fn 85 := trivial
 have hsort := U.sortsI (m - 1)
 clear hBx hx
 refine callsIn_of_wp Tryz.func48 rfl trivial ?_ rfl
 simp only [Tryz.ntmps48, List.size_toArray, List.length_cons, List.length_nil, Nat.reduceAdd, Nat.reduceSub, Array.replicate_succ, Array.replicate_zero, List.push_toArray, List.append_toArray, List.nil_append, List.cons_append]
 gi_wp2_with (gi_at_call 84; refine hA.mono ?_; rintro e W ⟨v, rfl, hrow, hnil, hb⟩)
 rcases hrow.2 with ⟨rfl, hz⟩ | ⟨gb, cap, cur, rfl, hbase, hgb, r1, r2, r3, r4⟩
 ·have hss : xs = [] := List.eq_nil_of_length_eq_zero hz
  subst hss
  have hS := hsort.2 none 0 W
  change CallsIn _ _ Tryz.prog 85 _ _ _ at hS
  gi_wp2_with (gi_at_call 85; refine hS.mono ?_; rintro e w' ⟨rfl, rfl⟩)
  go_ret
  exact ⟨.slice none 0 0, rfl, by simpa using hrow, hb⟩
 ·have hH : Holds encZ W gb 0 xs.toArray := holds_of_block_i hgb (by simpa using r4)
  have hgl : gb < W.heap.size := (Array.getElem?_eq_some_iff.1 hgb).1
  have hsz : xs.length < 4611686018427387904 := by omega
  have hS := hsort.1 gb 0 cap xs W hH hgl hsz
  change CallsIn _ _ Tryz.prog 85 _ _ _ at hS
  gi_wp2_with (gi_at_call 85; refine hS.mono ?_; rintro e w' ⟨rfl, nn, os, rfl⟩)
  go_ret
  have hO := ownsRow_sorted_i (n := nn) (os := os) (ss := xs) (ts := xs.mergeSort fun x y => decide (x ≤ y)) (List.length_mergeSort _) hbase hgb r1 r2 r3
  rw [hn] at hO ⊢
  exact ⟨_, rfl, hO, hb.grown (grownBy_sorted_i _) hb.size (fun j hj => by cases hj; exact hbase)⟩
/-- slices.Sorted(slices.Values(order)), behind the iterator's making. -/
theorem sortedV_any (Bx c n : Nat) (a : Option Addr) (xs : List Int) (w : World) (hn : xs.length = n) (hn7 : n ≤ 1000000) (hBx : w.cell? ⟨Bx, 0, none⟩ = some (.slice a n c)) (hlt : Bx < w.heap.size) (hx : NAt w a xs) :
  Calls Tryz.prog 48 #[.func (.func 108) #[] #[.pointer (some ⟨Bx, 0, none⟩)]] w fun e w' => ∃ a' c', e = .returned (.slice a' n c') ∧ NAt w' a' (xs.mergeSort (fun x y => decide (x ≤ y))) ∧ Below w.heap.size w w' := by
 refine (callsIn_wide (n := 6)).1 ((sortedV_in 6 Bx c n a xs w (by omega) hn hn7 hBx hlt hx).mono ?_)
 rintro e w' ⟨v, rfl, hrow, hb⟩
 have hv : ∃ va vc, v = .slice va n vc := by
  rcases hrow.2 with ⟨rfl, h0⟩ | ⟨g, cap, cur, rfl, _⟩
  ·exact ⟨none, 0, by rw [show n = 0 by omega]⟩
  ·exact ⟨_, _, by rw [hn]⟩
 obtain ⟨va, vc, rfl⟩ := hv
 rw [hn] at hrow
 exact ⟨va, vc, rfl, own_nat (by rw [List.length_mergeSort, hn]) hrow (by unfold maxLen; omega), hb⟩
theorem values_any (a : Option Addr) (n c : Nat) (w : World) :
  Calls Tryz.prog 61 #[.slice a n c] w fun e w' => e = .returned (.func (.func 108) #[] #[.pointer (some ⟨w.heap.size, 0, none⟩)]) ∧ w' = w.alloc (.cells #[.slice a n c] 50) := by
 go_enter Tryz.func61, Tryz.ntmps61
 go_wp2
 go_ret
 exact ⟨rfl, rfl⟩
end Go.Proofs.YtekmadgacepdfaaGreat.T
namespace Go.Proofs.YtekmadgacepdfaaGreat.T
set_option linter.unusedVariables false
open Go.RowKit Fl Go.Shelf
set_option linter.unusedSimpArgs false

/-- Is the sorted order just the numbers? -/
def offV (all : List Int) (d : DoneV) : Bool := !decide (all[(d.num - 1).toNat]?.getD 0 = d.num)
theorem sorted_perm {n : Nat} {order : List Int} (hl : order.length = n) : ((List.range n).all fun i => decide ((order.mergeSort (fun x y => decide (x ≤ y)))[i]?.getD 0 = (i : Int) + 1)) = decide (order.Perm (upN n)) := by
 rw [Bool.eq_iff_iff, List.all_eq_true, decide_eq_true_eq]
 have hp := List.mergeSort_perm order (fun x y => decide (x ≤ y))
 have hln : (order.mergeSort (fun x y => decide (x ≤ y))).length = n := by rw [List.length_mergeSort, hl]
 constructor
 ·intro H
  have : order.mergeSort (fun x y => decide (x ≤ y)) = upN n := by
   refine List.ext_getElem? fun i => ?_
   by_cases hi : i < n
   ·have := H i (List.mem_range.2 hi)
    rw [decide_eq_true_eq] at this
    rw [List.getElem?_eq_getElem (by omega)] at this ⊢
    unfold upN
    rw [List.getElem?_map, List.getElem?_range hi]
    simpa using this
   ·rw [List.getElem?_eq_none_iff.2 (by omega), List.getElem?_eq_none_iff.2 (by rw [upN_len]; omega)]
  rw [← this]; exact hp.symm
 ·intro H i hi
  have hs : (order.mergeSort (fun x y => decide (x ≤ y))).Pairwise fun x y => x ≤ y := by
   have := List.pairwise_mergeSort (le := fun (x y : Int) => decide (x ≤ y)) (fun a b c => by simp; omega) (fun a b => by simp; omega) order
   exact this.imp fun h => by simpa using h
  have hnd : (order.mergeSort (fun x y => decide (x ≤ y))).Nodup := (hp.trans H).nodup_iff.2 (rise_nodup (upN_rise n))
  have hr : (order.mergeSort (fun x y => decide (x ≤ y))).Pairwise (· < ·) := (List.Pairwise.and hs hnd).imp fun h => by omega
  have : order.mergeSort (fun x y => decide (x ≤ y)) = upN n := rise_eq hr (upN_rise n) fun x => (hp.trans H).mem_iff
  rw [this, decide_eq_true_eq]
  unfold upN
  rw [List.getElem?_map, List.getElem?_range (List.mem_range.1 hi)]; rfl
theorem any_off {h : List DoneV} (hr : rightV h = true) {order : List Int} (hl : order.length = h.length) : (h.any (offV (order.mergeSort (fun x y => decide (x ≤ y))))) = !permOk h order := by
 have h1 : permOk h order = decide (order.Perm (upN h.length)) := by
  rw [Bool.eq_iff_iff, decide_eq_true_eq]
  exact ⟨fun h1 => perm_of_ok hr hl h1, fun h1 => (ok_of_perm hr h1).2⟩
 rw [h1, ← sorted_perm hl]
 rw [Bool.eq_iff_iff, List.any_eq_true, Bool.not_eq_true', List.all_eq_false]
 constructor
 ·rintro ⟨d, hd, ho⟩
  obtain ⟨i, hi, rfl⟩ := List.mem_iff_getElem.1 hd
  have hn := (right_num hr (List.getElem?_eq_getElem hi)).1
  refine ⟨i, List.mem_range.2 hi, ?_⟩
  unfold offV at ho
  rw [hn, show ((i : Int) + 1 - 1).toNat = i by omega] at ho
  simpa using ho
 ·rintro ⟨i, hi, ho⟩
  have hil := List.mem_range.1 hi
  have hn := (right_num hr (List.getElem?_eq_getElem hil)).1
  refine ⟨h[i], List.getElem_mem hil, ?_⟩
  unfold offV
  rw [hn, show ((i : Int) + 1 - 1).toNat = i by omega]
  simpa using ho
theorem reads1_any (x : DoneV) (Bx c n : Nat) (al : Option Addr) (all : List Int) (w : World) (hn : all.length = n) (hm : n ≤ 64) (hx1 : 1 ≤ x.num ∧ x.num ≤ n) (hBx : w.cell? ⟨Bx, 0, none⟩ = some (.slice al n c)) (hlt : Bx < w.heap.size) (ha : NAt w al all) :
  Calls Tryz.prog 62 #[.agg #[.int .i64 x.num, .int .i64 x.s.s0, .int .i64 x.s.s1, .int .i64 x.s.s2, .slice x.s.ra x.s.rs.length x.s.rc, .slice x.s.sa x.s.ss.length x.s.sc, .slice x.s.wa x.s.ws.length x.s.wc], .pointer (some ⟨Bx, 0, none⟩)] w (Ret (.bool (offV all x)) w) := by
 unfold offV
 obtain ⟨xn, s0, s1, s2, ra, rc, rs, sa, sc, ss, wa, wc, ws⟩ := x
 simp only at *
 generalize rs.length = n1 at *
 generalize ss.length = n2 at *
 generalize ws.length = n3 at *
 obtain ⟨k, rfl⟩ : ∃ k : Nat, xn = (k : Int) + 1 := ⟨(xn - 1).toNat, by omega⟩
 rw [show ((k : Int) + 1 - 1).toNat = k by omega]
 have hkn : k < n := by omega
 have hkl : k < all.length := by omega
 have hkn' : (k : Int) < (n : Int) := by omega
 have hk64 : (k : Int) ≤ 64 := by omega
 have hk0 : (k : Int) + 1 - 1 = (k : Int) := by omega
 rcases ha.row with h0 | ⟨b, o, rfl, hbl, hc⟩
 ·rw [h0] at hkl; simp at hkl
 have ck := hc k hkl
 clear hc ha hn hkl
 generalize all[k]?.getD 0 = v at *
 by_cases hv : v = (k : Int) + 1
 ·have hb : (v != (k : Int) + 1) = false := by simpa using hv
  rw [decide_eq_true hv]
  clear hv
  go_enter Tryz.func62, Tryz.ntmps62
  go_upto_region 1 with fail
  go_quiet (fail)
  go_wp2
  go_ret
  exact ⟨rfl, by exact below_auto⟩
 ·have hb : (v != (k : Int) + 1) = true := by simpa using hv
  rw [decide_eq_false hv]
  clear hv
  go_enter Tryz.func62, Tryz.ntmps62
  go_upto_region 1 with fail
  go_quiet (fail)
  go_wp2
  go_ret
  exact ⟨rfl, by exact below_auto⟩
theorem slIndexOff_any (P : DoneV → Bool) (a : Option Addr) (c B : Nat) (xs : List DoneV) (n : Nat) (w : World) (hn : xs.length = n) (h : HAt w a xs)
  (HM : ∀ (W : World) (x : DoneV), Below w.heap.size w W → x.s.At w → x ∈ xs → Calls Tryz.prog 62 #[.agg #[.int .i64 x.num, .int .i64 x.s.s0, .int .i64 x.s.s1, .int .i64 x.s.s2, .slice x.s.ra x.s.rs.length x.s.rc, .slice x.s.sa x.s.ss.length x.s.sc, .slice x.s.wa x.s.ws.length x.s.wc], .pointer (some ⟨B, 0, none⟩)] W (Ret (.bool (P x)) W)) :
  Calls Tryz.prog 101 #[.slice a n c, .func (.func 62) #[] #[.pointer (some ⟨B, 0, none⟩)]] w (Ret (.int .i64 (idxB P xs)) w) := by
 have hm := h.len
 have HX := hid h
 clear h
 by_cases h0 : xs = []
 ·subst h0
  simp only [List.length_nil] at hn
  subst hn
  have e : idxB P [] = -1 := rfl
  rw [e]
  clear e HX hm HM
  go_enter Tryz.func101, Tryz.ntmps101
  go_wp2
  go_loop [8] (fun i => i = .int .i64 0) (fun _ => 0)
  case atStart => rfl
  case round =>
   subst hrel
   go_wp2
   go_ret
   exact ⟨rfl, Below.refl _ _⟩
 ·have HN := hid hn
  rw [hn] at hm
  clear hn h0
  go_enter Tryz.func101, Tryz.ntmps101
  go_wp2
  go_loopw [8] (fun i wr => ∃ k : Nat, k ≤ n ∧ i = .int .i64 k ∧ Hid (∀ j : Nat, j < k → ∀ y, xs[j]? = some y → P y = false) ∧ Below w.heap.size w wr) (fun i _ => n - (intOf i).toNat)
  case atStart => exact ⟨0, Nat.zero_le _, rfl, hid fun j hj => absurd hj (Nat.not_lt_zero _), Below.refl _ _⟩
  case round =>
   obtain ⟨k, hk, rfl, HR, hbw⟩ := hrel
   by_cases hlt : k < n
   ·have hkl : k < xs.length := by rw [HN.out]; exact hlt
    have hlt' : (k : Int) < (n : Int) := by omega
    have hsz := hbw.size
    have hkx : Hid (xs[k]? = some (xs[k]?.getD default)) := hid (by rw [List.getElem?_eq_getElem hkl]; rfl)
    rcases (HX.out.below hbw).row with h0 | ⟨b, o, ha, hbl, hc⟩
    ·rw [h0] at hkl; simp at hkl
    subst ha
    have hc := hc k hkl
    have hs := HX.out.sub k hkl
    have hmem : xs[k]?.getD default ∈ xs := List.mem_of_getElem? hkx.out
    have H := HM wr _ hbw hs hmem
    clear hs hmem hkl
    generalize xs[k]?.getD default = x at *
    have c0 : wr.cell? ⟨b, o + k * 7, none⟩ = some (.int .i64 x.num) := hc 0 _ rfl
    have c1 := hc 1 _ rfl
    have c2 := hc 2 _ rfl
    have c3 := hc 3 _ rfl
    have c4 := hc 4 _ rfl
    have c5 := hc 5 _ rfl
    have c6 := hc 6 _ rfl
    clear hc
    cases hp : P x
    ·rw [hp] at H
     have HP := hid hp
     clear hp
     go_wp2_with (go_at_call 62; (with_reducible refine (H).mono ?_); rintro e w1 ⟨rfl, hb1⟩; obtain ⟨hc1, hf1⟩ := bcell hb1; (try simp only [World.heap_drewN, World.cell?_drewN, World.frozen?_drewN] at hc1 hf1); have hz1 := hb1.size; (try simp at hz1); (try have hy1_0 : w.heap.size < w1.heap.size := by omega); (try have hy1_1 : w.heap.size + 1 < w1.heap.size := by omega); (try have hx1_0 : w.heap.size ≤ w1.heap.size := by omega); (try have hx1_1 : w.heap.size + 1 ≤ w1.heap.size := by omega))
     go_roundw
     case rel => exact ⟨k + 1, by omega, by go_num, hid fun j hj y hy => by
       by_cases h : j < k
       ·exact HR.out j h y hy
       ·obtain rfl : j = k := by omega
        rw [hkx.out] at hy; cases hy; exact HP.out, by exact below_auto⟩
     case measure => simp [intOf]; omega
    ·rw [hp] at H
     have HP := hid hp
     clear hp
     go_wp2_with (go_at_call 62; (with_reducible refine (H).mono ?_); rintro e w1 ⟨rfl, hb1⟩; obtain ⟨hc1, hf1⟩ := bcell hb1; (try simp only [World.heap_drewN, World.cell?_drewN, World.frozen?_drewN] at hc1 hf1); have hz1 := hb1.size; (try simp at hz1); (try have hy1_0 : w.heap.size < w1.heap.size := by omega); (try have hy1_1 : w.heap.size + 1 < w1.heap.size := by omega); (try have hx1_0 : w.heap.size ≤ w1.heap.size := by omega); (try have hx1_1 : w.heap.size + 1 ≤ w1.heap.size := by omega))
     go_ret
     exact ⟨ret_int (by rw [idxB_some (p := P) hkx.out HP.out HR.out]), by exact below_auto⟩
   ·obtain rfl : k = n := by omega
    go_wp2
    go_ret
    refine ⟨ret_int ?_, by exact below_auto⟩
    rw [idxB_none]
    intro i y hy
    refine HR.out i ?_ y hy
    have := (List.getElem?_eq_some_iff.1 hy).1
    have := HN.out
    omega
theorem slOff_any (P : DoneV → Bool) (a : Option Addr) (c B : Nat) (xs : List DoneV) (n : Nat) (v : Bool) (w : World) (hn : xs.length = n) (h : HAt w a xs)
  (HM : ∀ (W : World) (x : DoneV), Below w.heap.size w W → x.s.At w → x ∈ xs → Calls Tryz.prog 62 #[.agg #[.int .i64 x.num, .int .i64 x.s.s0, .int .i64 x.s.s1, .int .i64 x.s.s2, .slice x.s.ra x.s.rs.length x.s.rc, .slice x.s.sa x.s.ss.length x.s.sc, .slice x.s.wa x.s.ws.length x.s.wc], .pointer (some ⟨B, 0, none⟩)] W (Ret (.bool (P x)) W)) (hv : xs.any P = v) :
  Calls Tryz.prog 55 #[.slice a n c, .func (.func 62) #[] #[.pointer (some ⟨B, 0, none⟩)]] w (Ret (.bool v) w) := by
 have H := slIndexOff_any P a c B xs n w hn h HM
 rw [← idxB_any] at hv
 generalize idxB P xs = r at *
 subst hv
 clear hn h HM
 go_enter Tryz.func55, Tryz.ntmps55
 go_wp2_with (go_at_call 101; (with_reducible refine (H).mono ?_); rintro e w1 ⟨rfl, hb1⟩; obtain ⟨hc1, hf1⟩ := bcell hb1; (try simp only [World.heap_drewN, World.cell?_drewN, World.frozen?_drewN] at hc1 hf1); have hz1 := hb1.size; (try simp at hz1); (try have hy1_0 : w.heap.size < w1.heap.size := by omega); (try have hy1_1 : w.heap.size + 1 < w1.heap.size := by omega); (try have hx1_0 : w.heap.size ≤ w1.heap.size := by omega); (try have hx1_1 : w.heap.size + 1 ≤ w1.heap.size := by omega))
 go_ret
 exact ⟨rfl, by exact below_auto⟩
end Go.Proofs.YtekmadgacepdfaaGreat.T
namespace Go.Proofs.YtekmadgacepdfaaGreat.T
set_option linter.unusedVariables false
open Go.RowKit Fl Go.Shelf
set_option linter.unusedSimpArgs false

theorem last_snoc {h : List DoneV} {k : Nat} {order : List Int} {p : Nat} {m : Int} {t : DoneV} (hp : order[p]? = some m) (ht : atN h m = some t) : lastV h k (order.take (p + 1)) = if t.s.writes k = true then m else lastV h k (order.take p) := by
 unfold lastV lastOf
 rw [List.take_add_one, hp, List.filter_append]
 have hw : wrN h k m = t.s.writes k := by unfold wrN; rw [ht]
 by_cases hc : t.s.writes k = true
 ·rw [if_pos hc]
  have : (some m).toList.filter (wrN h k) = [m] := by simp [hw, hc]
  rw [this, List.getLast?_concat]; rfl
 ·rw [if_neg hc]
  have : (some m).toList.filter (wrN h k) = [] := by simp [hw, hc]
  rw [this, List.append_nil]
theorem rdOk_eq {h : List DoneV} {k : Nat} {order : List Int} {p : Nat} {m : Int} {t : DoneV} (hp : order[p]? = some m) (ht : atN h m = some t) : rdOk h order k p = (!t.s.reads k || decide (lastV h k (order.take p) = versionV h k t.s.s2)) := by
 unfold rdOk
 rw [hp]
 simp only [ht]
set_option maxHeartbeats 2000000 in
set_option maxRecDepth 100000 in
theorem reads_any (a ao : Option Addr) (c co n no : Nat) (h : List DoneV) (order : List Int) (v : Bool) (w : World) (hn : h.length = n) (hcap : n ≤ c) (hh : HAt w a h) (hno : order.length = no) (hn7 : no ≤ 1000000) (ho : NAt w ao order) (hv : readsV h order = v) :
  Calls Tryz.prog 35 #[.slice a n c, .slice ao no co] w (Ret (.bool v) w) := by
 have HX := hid hh
 have HN := hid hn
 have HNO := hid hno
 have HO := hid ho
 have HV := hid hv
 have HRT := hid fun W (hb : Below w.heap.size w W) => right_any a c n h _ W hn hcap (hh.below hb) rfl
 have hbx : Below w.heap.size w (w.alloc (.cells #[.slice ao no co] 50)) := Below.alloc1 (Nat.le_refl _) (Below.refl _ _) _
 have HSO := hid (sortedV_any w.heap.size co no ao order (w.alloc (.cells #[.slice ao no co] 50)) hno hn7 (by simp [go_sem]) (by simp) (ho.below hbx))
 have HLT := hid hh.keys_lt
 have hm := hh.len
 rw [hn] at hm
 clear hh hn hno ho hv
 go_enter Tryz.func35, Tryz.ntmps35
 go_upto_region 1 with fail
 go_wp2_with (go_at_call 61; refine (values_any ao no co w).mono ?_; rintro e w' ⟨rfl, rfl⟩)
 refine HSO.out.mono ?_
 rintro e w1 ⟨aa, ca, rfl, hAll, hb1⟩
 have hbw1 := hbx.trans (hb1.mono (by simp))
 obtain ⟨all, hall⟩ : ∃ all, all = order.mergeSort (fun x y => decide (x ≤ y)) := ⟨_, rfl⟩
 rw [← hall] at hAll
 have HALL := hid hall
 have hlall : all.length = no := by rw [hall, List.length_mergeSort, HNO.out]
 have HLA := hid hlall
 have HAL := hid hAll
 clear HSO hAll hb1 hbx hall hlall
 have hbz : Below w1.heap.size w1 (w1.alloc (.cells #[.slice aa no ca] 50)) := Below.alloc1 (Nat.le_refl _) (Below.refl _ _) _
 have hbw2 := hbw1.trans (hbz.mono hbw1.size)
 have hbc : (w1.alloc (.cells #[.slice aa no ca] 50)).cell? ⟨w1.heap.size, 0, none⟩ = some (.slice aa no ca) := by simp [go_sem]
 have hbs : w1.heap.size < (w1.alloc (.cells #[.slice aa no ca] 50)).heap.size := by simp
 have HAL2 := hid (HAL.out.below hbz)
 go_upto_region 2 with fail
 generalize w1.alloc (.cells #[.slice aa no ca] 50) = w2 at *
 generalize w1.heap.size = Bx at *
 clear hbw1 hbz HAL
 have HRW := HRT.out w2 hbw2
 have hsz2 := hbw2.size
 have hvd : v = ((rightV h && (decide (order.length = h.length) && permOk h order)) && (keysV h).all fun k => (List.range order.length).all fun i => rdOk h order k i) := HV.out.symm
 have HVD := hid hvd
 clear hvd
 by_cases hr : rightV h = true
 rotate_left
 ·have hrf : rightV h = false := by simpa using hr
  rw [hrf] at HRW
  have HV0 : Hid (v = false) := hid (by rw [HVD.out, hrf]; rfl)
  clear hr hrf hbc HAL2
  go_wp2_with (go_at_call 29; (with_reducible refine (HRW).mono ?_); rintro e w3 ⟨rfl, hb3⟩; obtain ⟨hc3, hf3⟩ := bcell hb3; (try simp only [World.heap_drewN, World.cell?_drewN, World.frozen?_drewN] at hc3 hf3); have hz3 := hb3.size; (try simp at hz3); (try have hy3_0 : w.heap.size < w3.heap.size := by omega); (try have hy3_1 : w.heap.size + 1 < w3.heap.size := by omega); (try have hx3_0 : w.heap.size ≤ w3.heap.size := by omega); (try have hx3_1 : w.heap.size + 1 ≤ w3.heap.size := by omega))
  go_ret
  exact ⟨ret_bool HV0.out.symm, by exact below_auto⟩
 rw [hr] at HRW
 by_cases hlen : no = n
 rotate_left
 ·have hb : ((no : Int) != (n : Int)) = true := by simp; omega
  have HV0 : Hid (v = false) := hid (by rw [HVD.out, show decide (order.length = h.length) = false by rw [HNO.out, HN.out]; simpa using hlen]; simp)
  clear hr hlen hbc HAL2
  go_wp2_with (go_at_call 29; (with_reducible refine (HRW).mono ?_); rintro e w3 ⟨rfl, hb3⟩; obtain ⟨hc3, hf3⟩ := bcell hb3; (try simp only [World.heap_drewN, World.cell?_drewN, World.frozen?_drewN] at hc3 hf3); have hz3 := hb3.size; (try simp at hz3); (try have hy3_0 : w.heap.size < w3.heap.size := by omega); (try have hy3_1 : w.heap.size + 1 < w3.heap.size := by omega); (try have hx3_0 : w.heap.size ≤ w3.heap.size := by omega); (try have hx3_1 : w.heap.size + 1 ≤ w3.heap.size := by omega))
  go_ret
  exact ⟨ret_bool HV0.out.symm, by exact below_auto⟩
 subst hlen
 have hb : ((no : Int) != (no : Int)) = false := by simp
 have hn64 : no ≤ 64 := by have := right_len hr; rw [HN.out] at this; exact this
 have HR := hid hr
 have hoff := any_off hr (order := order) (by rw [HNO.out, HN.out])
 rw [← HALL.out] at hoff
 have HCF := hid fun W (hw : Below w2.heap.size w2 W) => slOff_any (offV all) a c Bx h no (!permOk h order) W HN.out (HX.out.below (hbw2.trans (hw.mono hsz2)))
  (fun W' x hb' hx hmem => reads1_any x Bx ca no aa all W' HLA.out hn64 (by
   obtain ⟨i, hi, rfl⟩ := List.mem_iff_getElem.1 hmem
   have h1 := (right_num HR.out (List.getElem?_eq_getElem hi)).1
   have h2 := HN.out
   omega) (((hw.trans (hb'.mono hw.size)).cell (p := ⟨Bx, 0, none⟩) hbs).trans hbc) (Nat.lt_of_lt_of_le hbs (Nat.le_trans hw.size hb'.size)) ((HAL2.out.below hw).below hb')) hoff
 clear hoff hr
 cases hpo : permOk h order
 ·have HV0 : Hid (v = false) := hid (by rw [HVD.out, hpo]; simp)
  have HCF0 := HCF.out
  rw [hpo] at HCF0
  clear hpo
  go_wp2_with (first | (go_at_call 29; (with_reducible refine (HRW).mono ?_); rintro e w3 ⟨rfl, hb3⟩; obtain ⟨hc3, hf3⟩ := bcell hb3; (try simp only [World.heap_drewN, World.cell?_drewN, World.frozen?_drewN] at hc3 hf3); have hz3 := hb3.size; (try simp at hz3); (try have hy3_0 : w.heap.size < w3.heap.size := by omega); (try have hy3_1 : w.heap.size + 1 < w3.heap.size := by omega); (try have hx3_0 : w.heap.size ≤ w3.heap.size := by omega); (try have hx3_1 : w.heap.size + 1 ≤ w3.heap.size := by omega)) | (go_at_call 55; (with_reducible refine (HCF0 _ (by exact below_auto)).mono ?_); rintro e w4 ⟨rfl, hb4⟩; obtain ⟨hc4, hf4⟩ := bcell hb4; (try simp only [World.heap_drewN, World.cell?_drewN, World.frozen?_drewN] at hc4 hf4); have hz4 := hb4.size; (try simp at hz4); (try have hy4_0 : w.heap.size < w4.heap.size := by omega); (try have hy4_1 : w.heap.size + 1 < w4.heap.size := by omega); (try have hx4_0 : w.heap.size ≤ w4.heap.size := by omega); (try have hx4_1 : w.heap.size + 1 ≤ w4.heap.size := by omega)))
  go_ret
  exact ⟨ret_bool HV0.out.symm, by exact below_auto⟩
 have HPERM := hid (perm_of_ok HR.out (by rw [HNO.out, HN.out]) hpo)
 have hvk : v = (keysV h).all fun k => (List.range no).all fun i => rdOk h order k i := by
  rw [HVD.out, HR.out, hpo, show decide (order.length = h.length) = true by rw [HNO.out, HN.out]; simp, HNO.out]
  simp
 have HVK := hid hvk
 have HCF0 := HCF.out
 rw [hpo] at HCF0
 clear hpo hvk HVD HCF
 go_upto_region 5 with (first | (go_at_call 29; (with_reducible refine (HRW).mono ?_); rintro e w3 ⟨rfl, hb3⟩; obtain ⟨hc3, hf3⟩ := bcell hb3; (try simp only [World.heap_drewN, World.cell?_drewN, World.frozen?_drewN] at hc3 hf3); have hz3 := hb3.size; (try simp at hz3); (try have hy3_0 : w.heap.size < w3.heap.size := by omega); (try have hy3_1 : w.heap.size + 1 < w3.heap.size := by omega); (try have hx3_0 : w.heap.size ≤ w3.heap.size := by omega); (try have hx3_1 : w.heap.size + 1 ≤ w3.heap.size := by omega)) | (go_at_call 55; (with_reducible refine (HCF0 _ (by exact below_auto)).mono ?_); rintro e w4 ⟨rfl, hb4⟩; obtain ⟨hc4, hf4⟩ := bcell hb4; (try simp only [World.heap_drewN, World.cell?_drewN, World.frozen?_drewN] at hc4 hf4); have hz4 := hb4.size; (try simp at hz4); (try have hy4_0 : w.heap.size < w4.heap.size := by omega); (try have hy4_1 : w.heap.size + 1 < w4.heap.size := by omega); (try have hx4_0 : w.heap.size ≤ w4.heap.size := by omega); (try have hx4_1 : w.heap.size + 1 ≤ w4.heap.size := by omega)))
 have hbw4 : Below w.heap.size w w4 := by exact below_auto
 have hsz4 := hbw4.size
 clear hb3 hc3 hf3 hz3 hb4 hc4 hf4 hz4 hbc HAL2 HCF0 HRW
 go_loopw [34] (fun t34 wr => ∃ i : Nat, t34 = .int .i64 (i : Nat) ∧ i ≤ no ∧ Hid (∀ k ∈ keyT h i, ∀ p, p < no → rdOk h order k p = true) ∧ Below w.heap.size w wr) (fun t34 _ => no - (intOf t34).toNat)
 case atStart => exact ⟨0, rfl, Nat.zero_le _, hid (fun k hk => by simp [keyT] at hk), hbw4⟩
 case round =>
  obtain ⟨i, rfl, hi, HI, hbi⟩ := hrel
  by_cases hil : i < no
  ·have hil' : (i : Int) < (no : Int) := by omega
   have hkl : i < h.length := by rw [HN.out]; exact hil
   have hkx : Hid (h[i]? = some (h[i]?.getD default)) := hid (by rw [List.getElem?_eq_getElem hkl]; rfl)
   rcases (HX.out.below hbi).row with h0 | ⟨b, o, ha, hbl, hc⟩
   ·rw [h0] at hkl; simp at hkl
   subst ha
   have hc := hc i hkl
   have HS := hid (HX.out.sub i hkl)
   clear hkl
   generalize h[i]?.getD default = x at *
   have c0 : wr.cell? ⟨b, o + i * 7, none⟩ = some (.int .i64 x.num) := hc 0 _ rfl
   have c1 := hc 1 _ rfl
   have c2 := hc 2 _ rfl
   have c3 := hc 3 _ rfl
   have c4 := hc 4 _ rfl
   have c5 := hc 5 _ rfl
   have c6 := hc 6 _ rfl
   clear hc
   have hszi := hbi.size
   have hml := HS.out.w.len
   unfold maxLen at hml
   obtain ⟨m, hmm⟩ : ∃ m, m = x.s.ws.length := ⟨_, rfl⟩
   obtain ⟨xa, hxa⟩ : ∃ xa, xa = x.s.wa := ⟨_, rfl⟩
   have HFW : Hid (FAt w xa x.s.ws) := hid (by rw [hxa]; exact HS.out.w)
   rw [← hmm] at hml c6
   rw [← hxa] at c6
   have HMW := hid hmm
   clear hmm hxa
   have hbz : Below w.heap.size w (wr.alloc (.cells #[.int .i64 x.num, .int .i64 x.s.s0, .int .i64 x.s.s1, .int .i64 x.s.s2, .slice x.s.ra x.s.rs.length x.s.rc, .slice x.s.sa x.s.ss.length x.s.sc, .slice xa m x.s.wc] 73)) := hbi.alloc hszi _
   go_upto_region 8 with fail
   generalize wr.alloc (.cells #[.int .i64 x.num, .int .i64 x.s.s0, .int .i64 x.s.s1, .int .i64 x.s.s2, .slice x.s.ra x.s.rs.length x.s.rc, .slice x.s.sa x.s.ss.length x.s.sc, .slice xa m x.s.wc] 73) = W5 at *
   clear c0 c1 c2 c3 c4 c5 c6 hbi hszi
   go_loopw [42] (fun t42 wx => ∃ j : Nat, t42 = .int .i64 (j : Nat) ∧ j ≤ m ∧ Hid (∀ k ∈ x.s.ws.take j, ∀ p, p < no → rdOk h order k p = true) ∧ Below w.heap.size w wx) (fun t42 _ => m - (intOf t42).toNat)
   case atStart => exact ⟨0, rfl, Nat.zero_le _, hid (fun k hk => by simp at hk), hbz⟩
   case round =>
    obtain ⟨j, rfl, hj, HJ, hbj⟩ := hrel
    clear hbz
    by_cases hjl : j < m
    ·have hjl' : (j : Int) < (m : Int) := by omega
     have hjw : j < x.s.ws.length := by rw [← HMW.out]; exact hjl
     have hky : Hid (x.s.ws[j]? = some (x.s.ws[j]?.getD 0)) := hid (fl_some hjw)
     rcases (HFW.out.below hbj).row with h0 | ⟨g, q, hag, hgl, hgc⟩
     ·rw [h0] at hjw; simp at hjw
     have hgc := hgc j hjw
     subst hag
     clear hjw
     generalize x.s.ws[j]?.getD 0 = key at *
     have HW := hid fun y W (hy : SubV.At y w) (hw : Below w.heap.size w W) => subWrites_any y key W (hy.below hw)
     have HRD := hid fun y W (hy : SubV.At y w) (hw : Below w.heap.size w W) => subReads_any y key W (hy.below hw)
     have HVE := hid fun sn W (hw : Below w.heap.size w W) => version_any (some ⟨b, o, none⟩) c no h key sn W HN.out (HX.out.below hw)
     have HKM : Hid (key ∈ keysV h) := hid (List.mem_flatMap.2 ⟨x, List.mem_of_getElem? hkx.out, List.mem_of_getElem? hky.out⟩)
     have hszj := hbj.size
     go_upto_region 12 with fail
     go_loopw [10, 48] (fun t10 t48 wx => ∃ (p : Nat), t48 = .int .i64 (p : Nat) ∧ t10 = .int .i64 (lastV h key (order.take p)) ∧ p ≤ no ∧ Hid (∀ p', p' < p → rdOk h order key p' = true) ∧ Below w.heap.size w wx) (fun _ t48 _ => no - (intOf t48).toNat)
     case atStart => exact ⟨0, rfl, rfl, Nat.zero_le _, hid (fun p hp => absurd hp (Nat.not_lt_zero _)), hbj⟩
     case round =>
      obtain ⟨p, rfl, rfl, hp, HP, hbp⟩ := hrel
      clear hbj hszj hgc hgl
      by_cases hpl : p < no
      ·have hpl' : (p : Int) < (no : Int) := by omega
       have hpo : p < order.length := by rw [HNO.out]; exact hpl
       have hsp : Hid (order[p]? = some (order[p]?.getD 0)) := hid (by rw [List.getElem?_eq_getElem hpo]; rfl)
       rcases (HO.out.below hbp).row with h0 | ⟨bo, oo, hao, hbol, hoc⟩
       ·rw [h0] at hpo; simp at hpo
       have hoc := hoc p hpo
       subst hao
       have hmU := HPERM.out.mem_iff.1 (List.mem_of_getElem? hsp.out)
       clear hpo
       generalize order[p]?.getD 0 = on at *
       obtain ⟨u1, u2⟩ := upN_mem.1 hmU
       rw [HN.out] at u2
       obtain ⟨q, rfl⟩ : ∃ q : Nat, on = (q : Int) + 1 := ⟨(on - 1).toNat, by omega⟩
       have hqn : q < no := by omega
       have hqn' : (q : Int) < (no : Int) := by omega
       have hq1 : (q : Int) + 1 - 1 = (q : Int) := by omega
       have hq64 : (q : Int) + 1 ≤ 64 := by omega
       have hql : q < h.length := by rw [HN.out]; exact hqn
       have hsq : h[q]? = some (h[q]?.getD default) := by rw [List.getElem?_eq_getElem hql]; rfl
       have hat : atN h ((q : Int) + 1) = some (h[q]?.getD default) := by unfold atN; rw [show ((q : Int) + 1 - 1).toNat = q by omega]; exact hsq
       rcases (HX.out.below hbp).row with h0 | ⟨b', o', ha, hbl', hc⟩
       ·rw [h0] at hql; simp at hql
       cases ha
       have hc := hc q hql
       have HST := hid (HX.out.sub q hql)
       clear hql hsq hmU u1 u2
       generalize h[q]?.getD default = t at *
       have HAT := hid hat
       clear hat
       have d0 : wr.cell? ⟨b, o + q * 7, none⟩ = some (.int .i64 t.num) := hc 0 _ rfl
       have d1 := hc 1 _ rfl
       have d2 := hc 2 _ rfl
       have d3 := hc 3 _ rfl
       have d4 := hc 4 _ rfl
       have d5 := hc 5 _ rfl
       have d6 := hc 6 _ rfl
       clear hc
       have hszp := hbp.size
       have HW1 := HW.out t.s
       have HR1 := HRD.out t.s
       have HV1 := HVE.out t.s.s2
       have HLS := hid (last_snoc (k := key) hsp.out HAT.out)
       have HRK := hid (rdOk_eq (k := key) hsp.out HAT.out)
       have HTS := HST.out
       obtain ⟨bw, hbw⟩ : ∃ bw, t.s.writes key = bw := ⟨_, rfl⟩
       obtain ⟨br, hbr⟩ : ∃ br, t.s.reads key = br := ⟨_, rfl⟩
       rw [hbw] at HW1
       rw [hbr] at HR1
       have HBW := hid hbw; have HBR := hid hbr
       clear hbw hbr
       obtain ⟨vv, hvv⟩ : ∃ vv, versionV h key t.s.s2 = vv := ⟨_, rfl⟩
       obtain ⟨la, hla⟩ : ∃ la, lastV h key (order.take p) = la := ⟨_, rfl⟩
       rw [hvv] at HV1
       have HVV := hid hvv
       have HLA2 := hid hla
       rw [hla]
       clear hvv hla
       have HW2 := fun W (hw : Below w.heap.size w W) => HW1 W HTS hw
       have HR2 := fun W (hw : Below w.heap.size w W) => HR1 W HTS hw
       clear HW1 HR1 HTS
       have goOn : (br = false ∨ la = vv) → Hid (∀ p', p' < p + 1 → rdOk h order key p' = true) := fun hg => hid fun p' hp' => by
        by_cases hpp : p' < p
        ·exact HP.out p' hpp
        ·obtain rfl : p' = p := by omega
         rw [HRK.out, HBR.out, HLA2.out, HVV.out]
         rcases hg with rfl | rfl
         ·rfl
         ·simp
       have nxt : Hid (lastV h key (order.take (p + 1)) = if bw = true then (q : Int) + 1 else la) := hid (by rw [HLS.out, HBW.out, HLA2.out])
       by_cases hbad : br = true ∧ la ≠ vv
       ·obtain ⟨rfl, hne⟩ := hbad
        have hneb : (la != vv) = true := by simpa using hne
        have HV0 : Hid (v = false) := hid (by
         rw [HVK.out, List.all_eq_false]
         refine ⟨key, HKM.out, ?_⟩
         rw [Bool.not_eq_true, List.all_eq_false]
         refine ⟨p, List.mem_range.2 hpl, ?_⟩
         rw [HRK.out, HBR.out, HLA2.out, HVV.out]
         simpa using hne)
        clear hne goOn nxt HW2
        go_wp2_with (first | (go_at_call 63; (with_reducible refine (HR2 _ (by exact below_auto)).mono ?_); rintro e w5 ⟨rfl, hb5⟩; obtain ⟨hc5, hf5⟩ := bcell hb5; (try simp only [World.heap_drewN, World.cell?_drewN, World.frozen?_drewN] at hc5 hf5); have hz5 := hb5.size; (try simp at hz5); (try have hy5_0 : w.heap.size < w5.heap.size := by omega); (try have hy5_1 : w.heap.size + 1 < w5.heap.size := by omega); (try have hx5_0 : w.heap.size ≤ w5.heap.size := by omega); (try have hx5_1 : w.heap.size + 1 ≤ w5.heap.size := by omega); (try have hu5_wr_0 : wr.heap.size < w5.heap.size := by omega)) | (go_at_call 64; (with_reducible refine (HV1 _ (by exact below_auto)).mono ?_); rintro e w6 ⟨rfl, hb6⟩; obtain ⟨hc6, hf6⟩ := bcell hb6; (try simp only [World.heap_drewN, World.cell?_drewN, World.frozen?_drewN] at hc6 hf6); have hz6 := hb6.size; (try simp at hz6); (try have hy6_0 : w.heap.size < w6.heap.size := by omega); (try have hy6_1 : w.heap.size + 1 < w6.heap.size := by omega); (try have hx6_0 : w.heap.size ≤ w6.heap.size := by omega); (try have hx6_1 : w.heap.size + 1 ≤ w6.heap.size := by omega); (try have hu6_wr_0 : wr.heap.size < w6.heap.size := by omega)))
        go_ret
        exact ⟨ret_bool HV0.out.symm, by exact below_auto⟩
       ·have hok : br = false ∨ (br = true ∧ la = vv) := by
         cases br
         ·exact .inl rfl
         ·exact .inr ⟨rfl, Classical.byContradiction fun hc => hbad ⟨rfl, hc⟩⟩
        have HG := goOn (by rcases hok with h1 | h1; exact .inl h1; exact .inr h1.2)
        clear goOn hbad
        rcases hok with rfl | ⟨rfl, hlv⟩
        ·cases bw
         ·have HNX : Hid (la = lastV h key (order.take (p + 1))) := hid (by rw [nxt.out]; rfl)
          clear nxt
          go_wp2_with (first | (go_at_call 63; (with_reducible refine (HR2 _ (by exact below_auto)).mono ?_); rintro e w5 ⟨rfl, hb5⟩; obtain ⟨hc5, hf5⟩ := bcell hb5; (try simp only [World.heap_drewN, World.cell?_drewN, World.frozen?_drewN] at hc5 hf5); have hz5 := hb5.size; (try simp at hz5); (try have hy5_0 : w.heap.size < w5.heap.size := by omega); (try have hy5_1 : w.heap.size + 1 < w5.heap.size := by omega); (try have hx5_0 : w.heap.size ≤ w5.heap.size := by omega); (try have hx5_1 : w.heap.size + 1 ≤ w5.heap.size := by omega); (try have hu5_wr_0 : wr.heap.size < w5.heap.size := by omega)) | (go_at_call 65; (with_reducible refine (HW2 _ (by exact below_auto)).mono ?_); rintro e w6 ⟨rfl, hb6⟩; obtain ⟨hc6, hf6⟩ := bcell hb6; (try simp only [World.heap_drewN, World.cell?_drewN, World.frozen?_drewN] at hc6 hf6); have hz6 := hb6.size; (try simp at hz6); (try have hy6_0 : w.heap.size < w6.heap.size := by omega); (try have hy6_1 : w.heap.size + 1 < w6.heap.size := by omega); (try have hx6_0 : w.heap.size ≤ w6.heap.size := by omega); (try have hx6_1 : w.heap.size + 1 ≤ w6.heap.size := by omega)))
          go_roundw
          case rel => exact ⟨p + 1, by go_num, by rw [← HNX.out], by omega, HG, by exact below_auto⟩
          case measure => simp [intOf]; omega
         ·have HNX : Hid ((q : Int) + 1 = lastV h key (order.take (p + 1))) := hid (by rw [nxt.out]; rfl)
          clear nxt
          go_wp2_with (first | (go_at_call 63; (with_reducible refine (HR2 _ (by exact below_auto)).mono ?_); rintro e w5 ⟨rfl, hb5⟩; obtain ⟨hc5, hf5⟩ := bcell hb5; (try simp only [World.heap_drewN, World.cell?_drewN, World.frozen?_drewN] at hc5 hf5); have hz5 := hb5.size; (try simp at hz5); (try have hy5_0 : w.heap.size < w5.heap.size := by omega); (try have hy5_1 : w.heap.size + 1 < w5.heap.size := by omega); (try have hx5_0 : w.heap.size ≤ w5.heap.size := by omega); (try have hx5_1 : w.heap.size + 1 ≤ w5.heap.size := by omega); (try have hu5_wr_0 : wr.heap.size < w5.heap.size := by omega)) | (go_at_call 65; (with_reducible refine (HW2 _ (by exact below_auto)).mono ?_); rintro e w6 ⟨rfl, hb6⟩; obtain ⟨hc6, hf6⟩ := bcell hb6; (try simp only [World.heap_drewN, World.cell?_drewN, World.frozen?_drewN] at hc6 hf6); have hz6 := hb6.size; (try simp at hz6); (try have hy6_0 : w.heap.size < w6.heap.size := by omega); (try have hy6_1 : w.heap.size + 1 < w6.heap.size := by omega); (try have hx6_0 : w.heap.size ≤ w6.heap.size := by omega); (try have hx6_1 : w.heap.size + 1 ≤ w6.heap.size := by omega)))
          go_roundw
          case rel => exact ⟨p + 1, by go_num, by rw [← HNX.out], by omega, HG, by exact below_auto⟩
          case measure => simp [intOf]; omega
        ·have hneb : (la != vv) = false := by simpa using hlv
         have HLV := hid hlv
         clear hlv
         cases bw
         ·have HNX : Hid (la = lastV h key (order.take (p + 1))) := hid (by rw [nxt.out]; rfl)
          clear nxt
          go_wp2_with (first | (go_at_call 63; (with_reducible refine (HR2 _ (by exact below_auto)).mono ?_); rintro e w5 ⟨rfl, hb5⟩; obtain ⟨hc5, hf5⟩ := bcell hb5; (try simp only [World.heap_drewN, World.cell?_drewN, World.frozen?_drewN] at hc5 hf5); have hz5 := hb5.size; (try simp at hz5); (try have hy5_0 : w.heap.size < w5.heap.size := by omega); (try have hy5_1 : w.heap.size + 1 < w5.heap.size := by omega); (try have hx5_0 : w.heap.size ≤ w5.heap.size := by omega); (try have hx5_1 : w.heap.size + 1 ≤ w5.heap.size := by omega); (try have hu5_wr_0 : wr.heap.size < w5.heap.size := by omega)) | (go_at_call 64; (with_reducible refine (HV1 _ (by exact below_auto)).mono ?_); rintro e w6 ⟨rfl, hb6⟩; obtain ⟨hc6, hf6⟩ := bcell hb6; (try simp only [World.heap_drewN, World.cell?_drewN, World.frozen?_drewN] at hc6 hf6); have hz6 := hb6.size; (try simp at hz6); (try have hy6_0 : w.heap.size < w6.heap.size := by omega); (try have hy6_1 : w.heap.size + 1 < w6.heap.size := by omega); (try have hx6_0 : w.heap.size ≤ w6.heap.size := by omega); (try have hx6_1 : w.heap.size + 1 ≤ w6.heap.size := by omega); (try have hu6_wr_0 : wr.heap.size < w6.heap.size := by omega)) | (go_at_call 65; (with_reducible refine (HW2 _ (by exact below_auto)).mono ?_); rintro e w7 ⟨rfl, hb7⟩; obtain ⟨hc7, hf7⟩ := bcell hb7; (try simp only [World.heap_drewN, World.cell?_drewN, World.frozen?_drewN] at hc7 hf7); have hz7 := hb7.size; (try simp at hz7); (try have hy7_0 : w.heap.size < w7.heap.size := by omega); (try have hy7_1 : w.heap.size + 1 < w7.heap.size := by omega); (try have hx7_0 : w.heap.size ≤ w7.heap.size := by omega); (try have hx7_1 : w.heap.size + 1 ≤ w7.heap.size := by omega)))
          go_roundw
          case rel => exact ⟨p + 1, by go_num, by rw [← HNX.out], by omega, HG, by exact below_auto⟩
          case measure => simp [intOf]; omega
         ·have HNX : Hid ((q : Int) + 1 = lastV h key (order.take (p + 1))) := hid (by rw [nxt.out]; rfl)
          clear nxt
          go_wp2_with (first | (go_at_call 63; (with_reducible refine (HR2 _ (by exact below_auto)).mono ?_); rintro e w5 ⟨rfl, hb5⟩; obtain ⟨hc5, hf5⟩ := bcell hb5; (try simp only [World.heap_drewN, World.cell?_drewN, World.frozen?_drewN] at hc5 hf5); have hz5 := hb5.size; (try simp at hz5); (try have hy5_0 : w.heap.size < w5.heap.size := by omega); (try have hy5_1 : w.heap.size + 1 < w5.heap.size := by omega); (try have hx5_0 : w.heap.size ≤ w5.heap.size := by omega); (try have hx5_1 : w.heap.size + 1 ≤ w5.heap.size := by omega); (try have hu5_wr_0 : wr.heap.size < w5.heap.size := by omega)) | (go_at_call 64; (with_reducible refine (HV1 _ (by exact below_auto)).mono ?_); rintro e w6 ⟨rfl, hb6⟩; obtain ⟨hc6, hf6⟩ := bcell hb6; (try simp only [World.heap_drewN, World.cell?_drewN, World.frozen?_drewN] at hc6 hf6); have hz6 := hb6.size; (try simp at hz6); (try have hy6_0 : w.heap.size < w6.heap.size := by omega); (try have hy6_1 : w.heap.size + 1 < w6.heap.size := by omega); (try have hx6_0 : w.heap.size ≤ w6.heap.size := by omega); (try have hx6_1 : w.heap.size + 1 ≤ w6.heap.size := by omega); (try have hu6_wr_0 : wr.heap.size < w6.heap.size := by omega)) | (go_at_call 65; (with_reducible refine (HW2 _ (by exact below_auto)).mono ?_); rintro e w7 ⟨rfl, hb7⟩; obtain ⟨hc7, hf7⟩ := bcell hb7; (try simp only [World.heap_drewN, World.cell?_drewN, World.frozen?_drewN] at hc7 hf7); have hz7 := hb7.size; (try simp at hz7); (try have hy7_0 : w.heap.size < w7.heap.size := by omega); (try have hy7_1 : w.heap.size + 1 < w7.heap.size := by omega); (try have hx7_0 : w.heap.size ≤ w7.heap.size := by omega); (try have hx7_1 : w.heap.size + 1 ≤ w7.heap.size := by omega)))
          go_roundw
          case rel => exact ⟨p + 1, by go_num, by rw [← HNX.out], by omega, HG, by exact below_auto⟩
          case measure => simp [intOf]; omega
      ·obtain rfl : p = no := by omega
       have hge : ¬ (p : Int) < (p : Int) := by omega
       have HJ2 : Hid (∀ k ∈ x.s.ws.take (j + 1), ∀ p', p' < p → rdOk h order k p' = true) := hid fun k hk p' hp' => by
        rw [List.take_add_one, hky.out] at hk
        rcases List.mem_append.1 hk with h1 | h1
        ·exact HJ.out k h1 p' hp'
        ·have : k = key := by simpa using h1
         subst this
         exact HP.out p' hp'
       go_wp2_with fail
       go_roundw
       case rel => exact ⟨j + 1, by go_num, by omega, HJ2, hbp⟩
       case measure => simp [intOf]; omega
    ·obtain rfl : j = m := by omega
     have hge : ¬ (j : Int) < (j : Int) := by omega
     have HI2 : Hid (∀ k ∈ keyT h (i + 1), ∀ p, p < no → rdOk h order k p = true) := hid fun k hk p hp => by
      rw [keyT_snoc hkx.out] at hk
      rcases List.mem_append.1 hk with h1 | h1
      ·exact HI.out k h1 p hp
      ·exact HJ.out k (by rw [HMW.out, List.take_length]; exact h1) p hp
     go_wp2_with fail
     go_roundw
     case rel => exact ⟨i + 1, by go_num, by omega, HI2, hbj⟩
     case measure => simp [intOf]; omega
  ·obtain rfl : i = no := by omega
   have hge : ¬ (i : Int) < (i : Int) := by omega
   have hvt : v = true := by
    rw [HVK.out, List.all_eq_true]
    intro k hk
    rw [List.all_eq_true]
    intro p hp
    refine HI.out k ?_ p (List.mem_range.1 hp)
    rw [← HN.out, keyT_all]; exact hk
   subst hvt
   go_wp2_with fail
   go_ret
   exact ⟨rfl, hbi⟩
end Go.Proofs.YtekmadgacepdfaaGreat.T
