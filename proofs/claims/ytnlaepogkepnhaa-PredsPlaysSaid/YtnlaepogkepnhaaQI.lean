/- slices.Insert of one item into a row of items. -/
import Derived.Test.YtnlaepogkepnhaaVR
import Derived.Test.YtnlaepogkepnhaaChecked
import Derived.WalkLawsBesides
import Derived.WalkSpells
import Derived.Outline
import Derived.Deep.RegionLaw
import Derived.Lib.Overlaps
import Derived.Laws.Externs
namespace Go.Proofs.Ytnlaepogkepnhaa.Q
open Go.RowKit

theorem hid' {p : Prop} (h : p) : Hid p := h

theorem vItemInfo : (Try.prog.info? 70).map (fun i => (i.zero, i.size, i.bytes)) = some (some (.agg #[.float .f64 0, .float .f64 0, .bool false, .bool false, .int .i64 0]), 5, 32) := by kernel_rfl

set_option maxRecDepth 100000 in
theorem vIns_end (v : Value) (vb B n : Nat) (cs xs : List Value) (w : World) (hB : B ≤ w.heap.size) (hown : w.ownsRow B 70 5 v n cs) (hn : n ≤ 4294967296) (hxl : xs.length = 5) (h1x : ∀ u ∈ xs, u.oneCell' = true)
    (hx : ∀ j u, xs[j]? = some u → w.cell? ((⟨vb, 0, none⟩ : Addr).add j) = some u) :
    ∃ v' w', w'.ownsRow B 70 5 v' (n + 1) (cs ++ xs) ∧ Grew w w' v v' ∧
      Calls Try.prog 64 #[v, .int .i64 n, .slice (some ⟨vb, 0, none⟩) 1 1] w fun e W => e = .returned v' ∧ W = w' := by
  obtain ⟨i0, hi0, hz0, hzs, hzb⟩ := info_parts vItemInfo
  obtain ⟨v', w', hr, h2, h3⟩ := run_append_own2 w B 67 70 i0 _ 5 32 Try.underlying67 hi0 hz0 hzs hzb rfl (by omega) v n cs hown ⟨vb, 0, none⟩ 1 1 xs (by omega) hx h1x (by omega) (by unfold maxLen; omega) (by omega) hB
  refine ⟨v', w', h2, h3, ?_⟩
  clear h2 h3 hx h1x
  rcases hown.2 with ⟨rfl, rfl⟩ | ⟨g, cap, cur, rfl, hbg, hg, hnc, hcm, hcs, htake⟩
  · clear hown
    go_enter Try.func64, Try.ntmps64
    go_wp2_with (at_builtin; refine Lib.wpList_append_run _ rfl _ _ _ _ rfl _ _ rfl rfl _ _ (hr _) ?_)
    go_ret
    exact ⟨rfl, rfl⟩
  · clear hown hg hcs htake
    unfold maxLen at hcm
    by_cases hcn : cap = n
    · subst hcn
      go_enter Try.func64, Try.ntmps64
      go_wp2_with (at_builtin; refine Lib.wpList_append_run _ rfl _ _ _ _ rfl _ _ rfl rfl _ _ (hr _) ?_)
      all_goals (go_ret; exact ⟨rfl, rfl⟩)
    · go_enter Try.func64, Try.ntmps64
      go_wp2_with (at_builtin; refine Lib.wpList_append_run _ rfl _ _ _ _ rfl _ _ rfl rfl _ _ (hr _) ?_)
      all_goals (go_ret; exact ⟨rfl, rfl⟩)

theorem cell_row {w : World} {g : Nat} {cur : Array Value} {t : TypeId} (h : w.heap[g]? = some (.cells cur t (0, 0))) (j : Nat) : w.cell? ⟨g, j, none⟩ = cur[j]? := cell_of_row w g j cur t (0, 0) h
theorem addr0 (g j : Nat) : (⟨g, 0, none⟩ : Addr).add j = ⟨g, j, none⟩ := by rw [Addr.add_lit, Nat.zero_add]

set_option maxRecDepth 100000 in
theorem vIns_shift (g n c i vb : Nat) (cur : Array Value) (xs : List Value) (w : World) (hi : i < n) (hroom : n + 1 ≤ c) (hc : c ≤ 9223372036854775807) (hvb : vb ≠ g)
    (hg : w.heap[g]? = some (.cells cur 70 (0, 0))) (hcur : cur.size = c * 5) (h1c : ∀ u ∈ cur.toList.take (n * 5), u.oneCell' = true) (hxl : xs.length = 5) (h1x : ∀ u ∈ xs, u.oneCell' = true)
    (hv : w.heap[vb]? = some (.cells xs.toArray 70 (0, 0))) :
    Calls Try.prog 64 #[.slice (some ⟨g, 0, none⟩) n c, .int .i64 i, .slice (some ⟨vb, 0, none⟩) 1 1] w fun e W => e = .returned (.slice (some ⟨g, 0, none⟩) (n + 1) c) ∧ w.grownBy W (some g) ∧
      ∃ cur' : Array Value, W.heap[g]? = some (.cells cur' 70 (0, 0)) ∧ cur'.size = cur.size ∧ cur'.toList.take ((n + 1) * 5) = cur.toList.take (i * 5) ++ xs ++ (cur.toList.take (n * 5)).drop (i * 5) := by
  obtain ⟨i0, hi0, hz0, hzs, hzb⟩ := info_parts vItemInfo
  have hsz : (Try.prog.info? 70).map (·.size) = some 5 := by rw [hi0]; simp [hzs]
  obtain ⟨mid, hmid⟩ : ∃ mid, mid = (cur.toList.take (n * 5)).drop (i * 5) := ⟨_, rfl⟩
  have hml : mid.length = (n - i) * 5 := by rw [hmid]; simp; omega
  have h1m : ∀ u ∈ mid, u.oneCell' = true := fun u hu => h1c u (by rw [hmid] at hu; exact List.mem_of_mem_drop hu)
  have hmc : ∀ j u, mid[j]? = some u → w.drew.cell? ((⟨g, i * 5, none⟩ : Addr).add j) = some u := fun j u hj => by
    rw [hmid, List.getElem?_drop, List.getElem?_take] at hj
    split at hj
    · rw [Addr.add_lit]
      show w.cell? _ = _
      rw [cell_row hg]; simpa using hj
    · cases hj
  have hcp1 := fun ty dc sc => run_copy_rowK (P := Try.prog) w.drew 67 67 ty 70 5 g ((i + 1) * 5) (n - i) dc ⟨g, i * 5, none⟩ (n + 1 - i) sc cur 70 mid Try.underlying67 hsz (show w.drew.heap[g]? = _ from hg)
    (by rw [hml]; simp only [Nat.min_def]; split <;> omega) hmc (by rw [hml, hcur]; omega) h1m
  obtain ⟨R1, hR1⟩ : ∃ R1 : Array Value, R1 = (cur.toList.take ((i + 1) * 5) ++ mid ++ cur.toList.drop ((i + 1) * 5 + mid.length)).toArray := ⟨_, rfl⟩
  rw [← hR1] at hcp1
  have hR1s : R1.size = cur.size := by rw [hR1]; simp [hml, hcur]; omega
  obtain ⟨w1, hw1⟩ : ∃ w1, w1 = w.drew.setRow g R1 := ⟨_, rfl⟩
  rw [← hw1] at hcp1
  have hg1 : w1.heap[g]? = some (.cells R1 70 (0, 0)) := by rw [hw1]; exact setRow_heap w.drew g cur _ _ (0, 0) hg
  have hv1 : w1.heap[vb]? = some (.cells xs.toArray 70 (0, 0)) := by rw [hw1, setRow_other _ _ _ _ hvb]; exact hv
  have hcp2 := fun ty dc => run_copy_rowK (P := Try.prog) w1 67 67 ty 70 5 g (i * 5) (n + 1 - i) dc ⟨vb, 0, none⟩ 1 1 R1 70 xs Try.underlying67 hsz hg1
    (by rw [hxl]; simp only [Nat.min_def]; split <;> omega) (fun j u hj => by rw [addr0, cell_row hv1]; simpa using hj) (by rw [hxl, hR1s, hcur]; omega) h1x
  obtain ⟨R2, hR2⟩ : ∃ R2 : Array Value, R2 = (R1.toList.take (i * 5) ++ xs ++ R1.toList.drop (i * 5 + xs.length)).toArray := ⟨_, rfl⟩
  rw [← hR2] at hcp2
  have fin : w.grownBy (w1.setRow g R2) (some g) ∧ ∃ cur' : Array Value, (w1.setRow g R2).heap[g]? = some (.cells cur' 70 (0, 0)) ∧ cur'.size = cur.size ∧ cur'.toList.take ((n + 1) * 5) = cur.toList.take (i * 5) ++ xs ++ (cur.toList.take (n * 5)).drop (i * 5) := by
    refine ⟨?_, R2, setRow_heap w1 g R1 _ _ (0, 0) hg1, by rw [hR2]; simp [hxl, hR1s, hcur]; omega, ?_⟩
    · rw [hw1]
      have a1 := grownBy_setRow w.drew g R1
      have a2 := grownBy_setRow (w.drew.setRow g R1) g R2
      exact ⟨rfl, rfl, rfl, by simp, fun k hk hne => (a2.block k (by simpa using hk) hne).trans (a1.block k hk hne)⟩
    · have := ins_list cur.toList mid xs (cur.toList.drop ((i + 1) * 5 + mid.length)) (i * 5) (by simp [hxl, hcur]; omega) ((n + 1) * 5) (by rw [hxl, hml]; omega)
      rw [← hmid, ← this, hR2, hR1]
      simp only [hxl, show (i + 1) * 5 = i * 5 + 5 by omega]
  have hov : ∀ lb cb, (callFunc 87 #[.slice (some ⟨vb, 0, none⟩) 1 1, .slice (some ⟨g, (i + 1) * 5, none⟩) lb cb]).run Try.prog w = .ok (.value (.bool false)) w := fun lb cb => by
    rw [run_callFunc_extern Try.func87 (by kernel_rfl) (by kernel_rfl) (by kernel_rfl) (e := Extern.SlicesOverlaps.overlaps #[67, 67] #[4]) (by kernel_rfl),
      Lib.run_overlaps_apart w 67 4 70 Try.underlying67 5 Try.sizeOf70 ⟨vb, 0, none⟩ ⟨g, (i + 1) * 5, none⟩ 1 1 lb cb hvb 70 70 5 cur.size (by simp [World.shape?, hv, hxl]) (by simp [World.shape?, hg]) (by omega) (by simp [World.frozen?, hv]) (by simp [World.frozen?, hv])]
    rfl
  have hb2 : ¬ (c = i + 1) := by omega
  have hb4 : ¬ (c = i) := by omega
  have hz3 : ((i : Int) == (n : Int)) = false := by simp; omega
  have hroom' : decide ((c : Int) < (n : Int) + 1) = false := by simp; omega
  have hwrap : IntKind.i64.wrap ((i : Int) + 1) = (i : Int) + 1 := by rw [IntKind.wrap_i64]; omega
  have hb1 : (0 : Int) ≤ (i : Int) + 1 := by omega
  have hin : i ≤ n := by omega
  have htn : ((i : Int) + 1).toNat = i + 1 := by omega
  have hb3 : (i : Int) ≤ (n : Int) + 1 := by omega
  have hfin := hid' fin
  clear fin hR2 hv1 hg1 hR1s hmc h1m hml hmid hv hxl h1x hg hcur h1c hR1
  have hW1 := hid' hw1
  clear hw1
  go_enter Try.func64, Try.ntmps64
  go_wp2_with (simp only [hov])
  go_region_law (refine step_copy_runI rfl _ _ 67 67 rfl _ _ (by simp [Act.eval, Act.put]) (by simp [Act.eval, Act.put]) (hcp1 _ _ _) ?_)
  go_wp2_with (at_builtin; refine wpList_copy_runI _ rfl _ _ 67 67 rfl _ _ rfl rfl (hcp2 _ _) ?_)
  go_ret
  exact ⟨rfl, hfin.out⟩

set_option maxRecDepth 100000 in
theorem vIns_grow (g n i vb : Nat) (cur : Array Value) (xs : List Value) (w : World) (hi : i < n) (hn : n ≤ 4294967296)
    (hg : w.heap[g]? = some (.cells cur 70 (0, 0))) (hcur : cur.size = n * 5) (h1c : ∀ u ∈ cur.toList.take (n * 5), u.oneCell' = true) (hxl : xs.length = 5) (h1x : ∀ u ∈ xs, u.oneCell' = true)
    (hv : w.heap[vb]? = some (.cells xs.toArray 70 (0, 0))) :
    ∃ G, n + 1 ≤ G ∧ G ≤ maxLen ∧ Calls Try.prog 64 #[.slice (some ⟨g, 0, none⟩) n n, .int .i64 i, .slice (some ⟨vb, 0, none⟩) 1 1] w fun e W => e = .returned (.slice (some ⟨w.heap.size, 0, none⟩) (n + 1) G) ∧ w.grownBy W (some g) ∧
      ∃ cur' : Array Value, W.heap[w.heap.size]? = some (.cells cur' 70 (0, 0)) ∧ cur'.size = G * 5 ∧ cur'.toList.take ((n + 1) * 5) = cur.toList.take (i * 5) ++ xs ++ (cur.toList.take (n * 5)).drop (i * 5) := by
  obtain ⟨i0, hi0, hz0, hzs, hzb⟩ := info_parts vItemInfo
  have hsz : (Try.prog.info? 70).map (·.size) = some 5 := by rw [hi0]; simp [hzs]
  have hgN : g < w.heap.size := (Array.getElem?_eq_some_iff.1 hg).1
  have hvN : vb < w.heap.size := (Array.getElem?_eq_some_iff.1 hv).1
  obtain ⟨N, hN⟩ : ∃ N, N = w.heap.size := ⟨_, rfl⟩
  obtain ⟨mid, hmid⟩ : ∃ mid, mid = (cur.toList.take (n * 5)).drop (i * 5) := ⟨_, rfl⟩
  have hml : mid.length = (n - i) * 5 := by rw [hmid]; simp; omega
  have h1m : ∀ u ∈ mid, u.oneCell' = true := fun u hu => h1c u (by rw [hmid] at hu; exact List.mem_of_mem_drop hu)
  have hol : (cur.toList.take (i * 5)).length = i * 5 := by simp; omega
  have hold : (Builtin.firstCells i0.size i (.slice (some ⟨g, 0, none⟩) i n)).run Try.prog w.drew = .ok (cur.toList.take (i * 5)).toArray w.drew := by
    rw [hzs]
    exact run_firstCells_some w.drew 5 i ⟨g, 0, none⟩ i n (cur.toList.take (i * 5)) (by rw [hol]) (fun j v hj => by
      rw [addr0]
      show w.cell? _ = _
      rw [cell_row hg]
      rw [List.getElem?_take] at hj
      split at hj
      · simpa using hj
      · cases hj)
  obtain ⟨G, hG⟩ : ∃ G, G = grownCap w (n + 1) n 70 := ⟨_, rfl⟩
  have hGn : n + 1 ≤ G := by rw [hG]; exact grownCap_ge w _ _ _
  have hGm : G ≤ maxLen := by rw [hG]; exact grownCap_le_maxLen w (n + 1) n 70 (by unfold maxLen; omega)
  refine ⟨G, hGn, hGm, ?_⟩
  unfold maxLen at hGm
  have hkk : (n : Int) + 1 - (i : Int) = ((n + 1 - i : Nat) : Int) := by omega
  have hik : i + (n + 1 - i) = n + 1 := by omega
  obtain ⟨R0, hR0⟩ : ∃ R0 : Array Value, R0 = (cur.toList.take (i * 5)).toArray ++ Builtin.zeroCells (Value.agg #[.float .f64 0, .float .f64 0, .bool false, .bool false, .int .i64 0]).cells (n + 1 - i) ++ Builtin.zeroCells (Value.agg #[.float .f64 0, .float .f64 0, .bool false, .bool false, .int .i64 0]).cells (G - (n + 1)) := ⟨_, rfl⟩
  have hR0s : R0.size = G * 5 := by
    rw [hR0]; simp only [Array.size_append, List.size_toArray, hol, size_zeroCells, Value.cells]
    simp; omega
  have hrz : ∀ ty, (Builtin.append_ #[67, 3] ty #[.slice (some ⟨g, 0, none⟩) i n, .int .i64 ((n : Int) + 1 - (i : Int))]).run Try.prog w =
      .ok (.slice (some ⟨N, 0, none⟩) (n + 1) G) (w.drew.alloc (.cells R0 70)) := fun ty => by
    have h := Lib.run_append_grow_zeros w 67 3 ty 70 i0 _ .i64 .i64 Try.underlying67 Try.underlying3 hi0 hz0 (some ⟨g, 0, none⟩) i n (cur.toList.take (i * 5)) hold (n + 1 - i) (by omega) (by omega) (by omega) (by omega) (by rw [hzb]; omega)
      (by rw [hzb, hik]; exact growslice_fits (by omega) (by omega))
    rw [hik] at h
    rw [hkk, hN, hR0, hG]
    exact h
  obtain ⟨w1, hw1⟩ : ∃ w1, w1 = w.drew.alloc (.cells R0 70) := ⟨_, rfl⟩
  have h1 : w1.heap[N]? = some (.cells R0 70 (0, 0)) := by rw [hw1, hN]; exact heap_alloc_new w.drew _
  have hold1 : ∀ k, k < w.heap.size → w1.heap[k]? = w.heap[k]? := fun k hk => by
    rw [hw1]; exact (World.grownBy_alloc w.drew (.cells R0 70) none).block k hk (by simp)
  have hv1 : w1.heap[vb]? = some (.cells xs.toArray 70 (0, 0)) := by rw [hold1 vb hvN]; exact hv
  have hg1 : w1.heap[g]? = some (.cells cur 70 (0, 0)) := by rw [hold1 g hgN]; exact hg
  obtain ⟨R1, hR1⟩ : ∃ R1 : Array Value, R1 = (R0.toList.take (i * 5) ++ xs ++ R0.toList.drop (i * 5 + xs.length)).toArray := ⟨_, rfl⟩
  have hR1s : R1.size = G * 5 := by rw [hR1]; simp [hxl, hR0s]; omega
  have hcpA : ∀ W : World, W.heap = w1.heap → ∀ ty dc, (Builtin.copy_ #[67, 67] ty #[.slice (some ⟨N, i * 5, none⟩) (n + 1 - i) dc, .slice (some ⟨vb, 0, none⟩) 1 1]).run Try.prog W = .ok (goInt (Nat.min 1 (n + 1 - i))) (W.setRow N R1) := fun W hW ty dc => by
    rw [hR1]
    exact run_copy_rowK (P := Try.prog) W 67 67 ty 70 5 N (i * 5) (n + 1 - i) dc ⟨vb, 0, none⟩ 1 1 R0 70 xs Try.underlying67 hsz (by rw [hW]; exact h1)
      (by rw [hxl]; simp only [Nat.min_def]; split <;> omega) (fun j u hj => by rw [addr0, cell_row (by rw [hW]; exact hv1)]; simpa using hj) (by rw [hxl, hR0s]; omega) h1x
  obtain ⟨R2, hR2⟩ : ∃ R2 : Array Value, R2 = (R1.toList.take ((i + 1) * 5) ++ mid ++ R1.toList.drop ((i + 1) * 5 + mid.length)).toArray := ⟨_, rfl⟩
  obtain ⟨w2, hw2⟩ : ∃ w2, w2 = w1.setRow N R1 := ⟨_, rfl⟩
  have h2 : w2.heap[N]? = some (.cells R1 70 (0, 0)) := by rw [hw2]; exact setRow_heap w1 N R0 _ _ (0, 0) h1
  have hg2 : w2.heap[g]? = some (.cells cur 70 (0, 0)) := by rw [hw2, setRow_other _ _ _ _ (by omega)]; exact hg1
  have hcpB : ∀ W : World, W.heap = w2.heap → ∀ ty dc sc, (Builtin.copy_ #[67, 67] ty #[.slice (some ⟨N, (i + 1) * 5, none⟩) (n - i) dc, .slice (some ⟨g, i * 5, none⟩) (n - i) sc]).run Try.prog W = .ok (goInt (Nat.min (n - i) (n - i))) (W.setRow N R2) := fun W hW ty dc sc => by
    rw [hR2]
    exact run_copy_rowK (P := Try.prog) W 67 67 ty 70 5 N ((i + 1) * 5) (n - i) dc ⟨g, i * 5, none⟩ (n - i) sc R1 70 mid Try.underlying67 hsz (by rw [hW]; exact h2)
      (by rw [hml]; simp only [Nat.min_def]; split <;> omega) (fun j u hj => by
        rw [hmid, List.getElem?_drop, List.getElem?_take] at hj
        split at hj
        · rw [Addr.add_lit, cell_row (by rw [hW]; exact hg2)]; simpa using hj
        · cases hj) (by rw [hml, hR1s]; omega) h1m
  have fin : ∀ W : World, W.os = w.os → W.tape = w.tape → W.output = w.output → W.heap = (w2.setRow N R2).heap → w.grownBy W (some g) ∧ ∃ cur' : Array Value, W.heap[w.heap.size]? = some (.cells cur' 70 (0, 0)) ∧ cur'.size = G * 5 ∧ cur'.toList.take ((n + 1) * 5) = cur.toList.take (i * 5) ++ xs ++ (cur.toList.take (n * 5)).drop (i * 5) := by
    intro W q1 q2 q3 q4
    have hsz2 : w.heap.size ≤ W.heap.size := by rw [q4, hw2, hw1]; simp
    refine ⟨⟨q1, q2, q3, hsz2, fun k hk _ => ?_⟩, R2, ?_, by rw [hR2]; simp [hml, hR1s]; omega, ?_⟩
    · rw [q4, setRow_other _ _ _ _ (by omega), hw2, setRow_other _ _ _ _ (by omega)]; exact hold1 k hk
    · rw [q4, ← hN]; exact setRow_heap w2 N R1 _ _ (0, 0) h2
    · have e0 : R0.toList.take (i * 5) = cur.toList.take (i * 5) := by
        rw [hR0]
        simp only [Array.toList_append, List.append_assoc]
        rw [List.take_append_of_le_length (by rw [hol]; exact Nat.le_refl _), List.take_of_length_le (by rw [hol]; exact Nat.le_refl _)]
      rw [hR2, ← hmid]
      have el : (R1.toList.take ((i + 1) * 5)) = cur.toList.take (i * 5) ++ xs := by
        rw [hR1, e0]
        show ((cur.toList.take (i * 5) ++ xs) ++ _).take _ = _
        have hl : (cur.toList.take (i * 5) ++ xs).length = (i + 1) * 5 := by rw [List.length_append, hol, hxl]; omega
        rw [← hl, List.take_left]
      rw [el]
      show ((cur.toList.take (i * 5) ++ xs ++ mid) ++ _).take _ = _
      have hl : (cur.toList.take (i * 5) ++ xs ++ mid).length = (n + 1) * 5 := by rw [List.length_append, List.length_append, hol, hxl, hml]; omega
      rw [← hl, List.take_left]
  have hb4 : ¬ (n = i) := by omega
  have hz3 : ((i : Int) == (n : Int)) = false := by simp; omega
  have hroom' : decide ((n : Int) < (n : Int) + 1) = true := by simp; omega
  have hwrap : IntKind.i64.wrap ((i : Int) + 1) = (i : Int) + 1 := by rw [IntKind.wrap_i64]; omega
  have hb1 : (0 : Int) ≤ (i : Int) + 1 := by omega
  have hin : i ≤ n := by omega
  have hin1 : i ≤ n + 1 := by omega
  have htn : ((i : Int) + 1).toNat = i + 1 := by omega
  have hb3 : (i : Int) ≤ (n : Int) := by omega
  have hGi : ¬ (G = i) := by omega
  have hGim : ¬ (G = i + 1) := by omega
  have hW1 := hid' hw1
  have hW2 := hid' hw2
  have hNN := hid' hN
  rw [hw1] at hcpA hw2
  rw [hw2] at hcpB fin
  clear hw1 hw2 hN hR2 hR1 hR0 hG hcur h1c hxl h1x hv hg h1 hv1 hg1 h2 hg2 hml h1m hmid hol hold hkk hik hR0s hR1s hold1 hi0 hz0 hzs hzb hsz
  have hfin := hid' fin
  clear fin
  have hcpA' := hcpA ((w.alloc (.cells R0 70)).drew) rfl
  have hcpB' := hcpB ((((w.alloc (.cells R0 70)).drew).setRow N R1).drew) rfl
  clear hcpA hcpB
  go_enter Try.func64, Try.ntmps64
  go_wp2_with (at_builtin; refine Lib.wpList_append_run _ rfl _ _ _ _ rfl _ _ rfl rfl _ _ (hrz _) ?_)
  go_region_law (refine step_copy_runI rfl _ _ 67 67 rfl _ _ (by simp [Act.eval, Act.put]) (by simp [Act.eval, Act.put]) (hcpB' _ _ _) ?_)
  go_wp2
  go_ret
  exact ⟨by rw [← hNN.out]; rfl, hfin.out _ rfl rfl rfl rfl⟩

/-- One more item at place i. -/
def InsRet (w : World) (B : Nat) (T : TypeId) (K : Nat) (v : Value) (n : Nat) (cs : List Value) (e : Ending) (W : World) : Prop := ∃ v', e = .returned v' ∧ W.ownsRow B T K v' n cs ∧ Grew w W v v'

theorem vInsert (v : Value) (vb B n i : Nat) (cs xs : List Value) (w : World) (hB : B ≤ w.heap.size) (hown : w.ownsRow B 70 5 v n cs) (hn : n ≤ 4294967296) (hi : i ≤ n) (h1c : ∀ u ∈ cs, u.oneCell' = true) (hxl : xs.length = 5) (h1x : ∀ u ∈ xs, u.oneCell' = true)
    (hv : w.heap[vb]? = some (.cells xs.toArray 70 (0, 0))) (hvb : v.ownBlock ≠ some vb) :
    Calls Try.prog 64 #[v, .int .i64 i, .slice (some ⟨vb, 0, none⟩) 1 1] w (InsRet w B 70 5 v (n + 1) (cs.take (i * 5) ++ xs ++ cs.drop (i * 5))) := by
  have hcl : cs.length = n * 5 := hown.1
  by_cases hin : i = n
  · subst hin
    obtain ⟨v', w', h1, h2, h3⟩ := vIns_end v vb B i cs xs w hB hown hn hxl h1x (fun j u hj => by rw [addr0, cell_row hv]; simpa using hj)
    refine h3.mono fun e W ⟨he, hW⟩ => ?_
    subst hW
    refine ⟨v', he, ?_, h2⟩
    rw [List.take_of_length_le (by omega), List.drop_of_length_le (by omega), List.append_nil]
    exact h1
  · have hlt : i < n := by omega
    rcases hown.2 with ⟨rfl, h0⟩ | ⟨g, cap, cur, rfl, hbg, hg, hnc, hcm, hcs, htake⟩
    · subst h0; simp at hcl; omega
    · have hvg : vb ≠ g := fun h => hvb (by subst h; rfl)
      have htk : cur.toList.take (n * 5) = cs := htake
      by_cases hroom : n + 1 ≤ cap
      · refine (vIns_shift g n cap i vb cur xs w hlt hroom (by unfold maxLen at hcm; omega) hvg hg hcs (by rw [htk]; exact h1c) hxl h1x hv).mono fun e W ⟨he, hgr, cur', q1, q2, q3⟩ => ?_
        have e1 : cur.toList.take (i * 5) = cs.take (i * 5) := by rw [← htk, List.take_take, Nat.min_eq_left (by omega)]
        rw [htk, e1] at q3
        have hl3 : (cs.take (i * 5) ++ xs ++ cs.drop (i * 5)).length = (n + 1) * 5 := by simp [hxl, hcl]; omega
        exact ⟨_, he, ⟨hl3, .inr ⟨g, cap, cur', rfl, hbg, q1, hroom, hcm, by rw [q2, hcs], q3⟩⟩, hgr, .inl rfl⟩
      · obtain rfl : cap = n := by omega
        obtain ⟨G, g1, g2, h3⟩ := vIns_grow g cap i vb cur xs w hlt hn hg hcs (by rw [htk]; exact h1c) hxl h1x hv
        refine h3.mono fun e W ⟨he, hgr, cur', q1, q2, q3⟩ => ?_
        have e1 : cur.toList.take (i * 5) = cs.take (i * 5) := by rw [← htk, List.take_take, Nat.min_eq_left (by omega)]
        rw [htk, e1] at q3
        have hl3 : (cs.take (i * 5) ++ xs ++ cs.drop (i * 5)).length = (cap + 1) * 5 := by simp [hxl, hcl]; omega
        exact ⟨_, he, ⟨hl3, .inr ⟨w.heap.size, G, cur', rfl, hB, q1, g1, g2, q2, q3⟩⟩, hgr, .inr (.inr ⟨w.heap.size, rfl, Nat.le_refl _⟩)⟩
end Go.Proofs.Ytnlaepogkepnhaa.Q
