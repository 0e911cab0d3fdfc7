/- The table of layer 9: At, Len, New, Clear, Put. -/
import Derived.Test.YtnlaepogkepnhaaVT
import Derived.Test.YtnlaepogkepnhaaNoteL
import Derived.StillTailTactics
namespace Go.Proofs.Ytnlaepogkepnhaa
set_option linter.unusedVariables false
open Go.RowKit Fl

/-- A key's number. -/
def atI (its : List ItV) (kb : Nat) : Int := if plcB its kb = true then (its[plcI its kb]?.getD default).n else 0
theorem plcB_lt {its : List ItV} {kb : Nat} (h : plcB its kb = true) : plcI its kb < its.length := by
  unfold plcB at h
  cases e : its[plcI its kb]? with
  | none => rw [e] at h; cases h
  | some x => exact (List.getElem?_eq_some_iff.1 e).1
theorem plcI_le (its : List ItV) (kb : Nat) : plcI its kb ≤ its.length := List.findIdx_le_length

theorem tabAt_any {w : World} {B T : Nat} {v : Value} {most : Int} {its : List ItV} (h : TabAt w B T v most its) (hr : rises its) (kb : Nat) (hk : kb < 2 ^ 64) :
    Calls Try.prog 13 #[.pointer (some ⟨T, 0, none⟩), .float .f64 kb] w (Ret (.int .i64 (atI its kb)) w) := by
  have H := place_any h hr kb hk
  have hT := h.lt
  have c1 := cell_row h.tab 1
  simp at c1
  cases hq : plcB its kb
  · have e : atI its kb = 0 := by simp [atI, hq]
    rw [e]; rw [hq] at H
    generalize plcI its kb = p at *
    clear h hq e
    go_enter Try.func13, Try.ntmps13
    go_wp2_with (go_at_call 47; (with_reducible refine (H).mono ?_); rintro e w1 ⟨rfl, hb1⟩; obtain ⟨hc1, hf1⟩ := bcell hb1; (try simp only [World.heap_drewN, World.cell?_drewN, World.frozen?_drewN] at hc1 hf1); have hz1 := hb1.size; (try simp at hz1); (try have hy1_0 : w.heap.size < w1.heap.size := by omega); (try have hy1_1 : w.heap.size + 1 < w1.heap.size := by omega); (try have hy1_2 : w.heap.size + 2 < w1.heap.size := by omega); (try have hy1_3 : w.heap.size + 3 < w1.heap.size := by omega); (try have hx1_0 : w.heap.size ≤ w1.heap.size := by omega); (try have hx1_1 : w.heap.size + 1 ≤ w1.heap.size := by omega); (try have hx1_2 : w.heap.size + 2 ≤ w1.heap.size := by omega))
    go_ret
    exact ⟨rfl, by (repeat (first | with_reducible exact Below.refl _ _ | ((with_reducible refine Below.alloc1 ?_ ?_ _); (· first | omega | (simp; done) | (simp; omega))) | (with_reducible refine Below.drew ?_) | (with_reducible refine below_drewN' ?_ _) | ((with_reducible refine Below.setCell1 ?_ ?_ _); (· first | omega | (simp; done) | (simp; omega))) | ((with_reducible refine Below.after (by assumption) ?_ ?_); (· first | omega | (simp; done) | (simp; omega)))))⟩
  · have e : atI its kb = (its[plcI its kb]?.getD default).n := by simp [atI, hq]
    have hp := plcB_lt hq
    rw [e]; rw [hq] at H
    have hown := h.own
    rcases hown.2 with ⟨rfl, h0⟩ | ⟨g, cap, cur, rfl, hbg, hg, hnc, hcm, hcs, htake⟩
    · have := itCells_len its
      rw [h0] at this; simp at this; omega
    · have hgl := (Array.getElem?_eq_some_iff.1 hg).1
      obtain ⟨_, d1⟩ := own_cells hown rfl _ hp
      have hlen := h.len
      generalize plcI its kb = p at *
      generalize (its[p]?.getD default).n = m at *
      generalize its.length = n at *
      have hp' : (p : Int) < (n : Int) := by omega
      clear h hq e hown hg hcs htake
      go_enter Try.func13, Try.ntmps13
      go_wp2_with (go_at_call 47; (with_reducible refine (H).mono ?_); rintro e w1 ⟨rfl, hb1⟩; obtain ⟨hc1, hf1⟩ := bcell hb1; (try simp only [World.heap_drewN, World.cell?_drewN, World.frozen?_drewN] at hc1 hf1); have hz1 := hb1.size; (try simp at hz1); (try have hy1_0 : w.heap.size < w1.heap.size := by omega); (try have hy1_1 : w.heap.size + 1 < w1.heap.size := by omega); (try have hy1_2 : w.heap.size + 2 < w1.heap.size := by omega); (try have hy1_3 : w.heap.size + 3 < w1.heap.size := by omega); (try have hx1_0 : w.heap.size ≤ w1.heap.size := by omega); (try have hx1_1 : w.heap.size + 1 ≤ w1.heap.size := by omega); (try have hx1_2 : w.heap.size + 2 ≤ w1.heap.size := by omega))
      go_ret
      exact ⟨rfl, by (repeat (first | with_reducible exact Below.refl _ _ | ((with_reducible refine Below.alloc1 ?_ ?_ _); (· first | omega | (simp; done) | (simp; omega))) | (with_reducible refine Below.drew ?_) | (with_reducible refine below_drewN' ?_ _) | ((with_reducible refine Below.setCell1 ?_ ?_ _); (· first | omega | (simp; done) | (simp; omega))) | ((with_reducible refine Below.after (by assumption) ?_ ?_); (· first | omega | (simp; done) | (simp; omega)))))⟩

theorem tabLen_any {w : World} {B T : Nat} {v : Value} {most : Int} {its : List ItV} (h : TabAt w B T v most its) :
    Calls Try.prog 16 #[.pointer (some ⟨T, 0, none⟩)] w (Ret (.int .i64 its.length) w) := by
  have c1 := cell_row h.tab 1
  simp at c1
  have hown := h.own
  rcases hown.2 with ⟨rfl, h0⟩ | ⟨g, cap, cur, rfl, hbg, hg, hnc, hcm, hcs, htake⟩
  · have := itCells_len its
    rw [h0] at this; simp at this
    rw [show its.length = 0 by omega]
    clear h hown this h0
    go_enter Try.func16, Try.ntmps16
    go_wp2
    go_ret
    exact ⟨rfl, by (repeat (first | with_reducible exact Below.refl _ _ | ((with_reducible refine Below.alloc1 ?_ ?_ _); (· first | omega | (simp; done) | (simp; omega))) | (with_reducible refine Below.drew ?_) | (with_reducible refine below_drewN' ?_ _) | ((with_reducible refine Below.setCell1 ?_ ?_ _); (· first | omega | (simp; done) | (simp; omega))) | ((with_reducible refine Below.after (by assumption) ?_ ?_); (· first | omega | (simp; done) | (simp; omega)))))⟩
  · generalize its.length = n at *
    clear h hown hg hcs htake
    go_enter Try.func16, Try.ntmps16
    go_wp2
    go_ret
    exact ⟨rfl, by (repeat (first | with_reducible exact Below.refl _ _ | ((with_reducible refine Below.alloc1 ?_ ?_ _); (· first | omega | (simp; done) | (simp; omega))) | (with_reducible refine Below.drew ?_) | (with_reducible refine below_drewN' ?_ _) | ((with_reducible refine Below.setCell1 ?_ ?_ _); (· first | omega | (simp; done) | (simp; omega))) | ((with_reducible refine Below.after (by assumption) ?_ ?_); (· first | omega | (simp; done) | (simp; omega)))))⟩

/-- How many a table may hold. -/
def mostI (m : Int) : Int := min (max m 0) 64
def NewRet (B : Nat) (w : World) (m : Int) (e : Ending) (w' : World) : Prop := e = .returned (.pointer (some ⟨w.heap.size, 0, none⟩)) ∧ TabAt w' B w.heap.size (.slice none 0 0) (mostI m) [] ∧ Below w.heap.size w w'
theorem tabNew_any (B : Nat) (m : Int) (w : World) (hB : B ≤ w.heap.size) (h1 : -9223372036854775808 ≤ m) (h2 : m ≤ 9223372036854775807) :
    Calls Try.prog 11 #[.int .i64 m] w (NewRet B w m) := by
  go_enter Try.func11, Try.ntmps11
  go_wp2
  go_ret
  refine ⟨rfl, ⟨?_, World.ownsRow_nil _ _ _ _, by simp [Value.ownBlock], hB, by simp⟩, by (repeat (first | with_reducible exact Below.refl _ _ | ((with_reducible refine Below.alloc1 ?_ ?_ _); (· first | omega | (simp; done) | (simp; omega))) | (with_reducible refine Below.drew ?_) | (with_reducible refine below_drewN' ?_ _) | ((with_reducible refine Below.setCell1 ?_ ?_ _); (· first | omega | (simp; done) | (simp; omega))) | ((with_reducible refine Below.after (by assumption) ?_ ?_); (· first | omega | (simp; done) | (simp; omega)))))⟩
  exact heap_alloc_new w _

theorem Upd.of_below {w w' : World} (h : Below w.heap.size w w') (T : Nat) (v : Value) : Upd w w' T v v := ⟨h.os, h.tape, h.output, h.size, fun k hk _ _ => h.block k hk, .inl rfl⟩

theorem tabClear_any {w : World} {B T : Nat} {v : Value} {most : Int} {its : List ItV} (h : TabAt w B T v most its) :
    Calls Try.prog 23 #[.pointer (some ⟨T, 0, none⟩)] w fun e w' => e = .returned (.tuple #[]) ∧ TabAt w' B T (.slice none 0 0) most [] ∧ Upd w w' T v (.slice none 0 0) := by
  have c1 := cell_row h.tab 1
  simp at c1
  have f1 : w.frozen? ⟨T, 1, none⟩ = false := by simp [World.frozen?, h.tab]
  have hfin : TabAt (w.setCell ⟨T, 1, none⟩ (.slice none 0 0)) B T (.slice none 0 0) most [] ∧ Upd w (w.setCell ⟨T, 1, none⟩ (.slice none 0 0)) T v (.slice none 0 0) := by
    have e := setCell_eq_setRow w T 1 _ _ _ (.slice none 0 0) h.tab
    rw [e]
    refine ⟨⟨by rw [setRow_heap w T _ _ _ _ h.tab]; rfl, World.ownsRow_nil _ _ _ _, by simp [Value.ownBlock], h.low, by simp⟩, ⟨rfl, rfl, rfl, by simp, fun k _ hk _ => setRow_other _ _ _ _ hk, .inr (.inl rfl)⟩⟩
  have hfin' := hid hfin
  clear h hfin
  go_enter Try.func23, Try.ntmps23
  go_wp2
  go_end0
  exact ⟨rfl, hfin'.out⟩

/-- What Put answers, and the items behind it. -/
def putI (its : List ItV) (most : Int) (kb : Nat) (n : Int) : Int × List ItV :=
  if isNaN kb = true then (40, its) else if n < 1 ∨ 1099511627776 < n then (43, its)
  else if plcB its kb = true then (0, its.set (plcI its kb) ⟨(its[plcI its kb]?.getD default).k, max (its[plcI its kb]?.getD default).n n⟩)
  else if (its.length : Int) = most then (3, its) else (0, its.take (plcI its kb) ++ [⟨kof kb, n⟩] ++ its.drop (plcI its kb))
def PutRet (w : World) (B T : Nat) (v : Value) (most : Int) (r : Int × List ItV) (e : Ending) (w' : World) : Prop := ∃ v', e = .returned (.int .i64 r.1) ∧ TabAt w' B T v' most r.2 ∧ Upd w w' T v v'

theorem itCells_setn : ∀ (its : List ItV) (p : Nat) (n : Int), p < its.length → itCells (its.set p ⟨(its[p]?.getD default).k, n⟩) = (itCells its).set (p * 2 + 1) (.int .i64 n)
  | [], _, _, h => by simp at h
  | x :: its, 0, n, _ => by simp [itCells, ItV.enc]
  | x :: its, p + 1, n, h => by
    have := itCells_setn its p n (by simpa using h)
    simp only [itCells] at this
    simp [itCells, ItV.enc, this, show (p + 1) * 2 + 1 = p * 2 + 1 + 1 + 1 by omega]

set_option maxRecDepth 100000 in
theorem tabPut_bad {w : World} {B T : Nat} {v : Value} {most : Int} {its : List ItV} (h : TabAt w B T v most its) (hr : rises its) (kb : Nat) (hk : kb < 2 ^ 64) (n : Int) (c : Int)
    (hc : (isNaN kb = true ∧ c = 40) ∨ (isNaN kb = false ∧ n < 1 ∧ c = 43) ∨ (isNaN kb = false ∧ 1 ≤ n ∧ 1099511627776 < n ∧ c = 43)) :
    Calls Try.prog 15 #[.pointer (some ⟨T, 0, none⟩), .float .f64 kb, .int .i64 n] w (PutRet w B T v most (c, its)) := by
  have H := place_any h hr kb hk
  have fin : ∀ e w', Ret (.int .i64 c) w e w' → PutRet w B T v most (c, its) e w' := fun e w' ⟨h1, h2⟩ => ⟨v, h1, h.below h2, Upd.of_below h2 T v⟩
  refine Calls.mono ?_ fin
  clear fin
  generalize plcI its kb = p at *
  generalize plcB its kb = q at *
  clear h
  rcases hc with ⟨h1, rfl⟩ | ⟨h1, h2, rfl⟩ | ⟨h1, h2, h3, rfl⟩
  all_goals
    go_enter Try.func15, Try.ntmps15
    go_wp2_with (first | (go_at_call 47; (with_reducible refine (H).mono ?_); rintro e w1 ⟨rfl, hb1⟩; obtain ⟨hc1, hf1⟩ := bcell hb1; (try simp only [World.heap_drewN, World.cell?_drewN, World.frozen?_drewN] at hc1 hf1); have hz1 := hb1.size; (try simp at hz1); (try have hy1_0 : w.heap.size < w1.heap.size := by omega); (try have hy1_1 : w.heap.size + 1 < w1.heap.size := by omega); (try have hy1_2 : w.heap.size + 2 < w1.heap.size := by omega); (try have hy1_3 : w.heap.size + 3 < w1.heap.size := by omega); (try have hx1_0 : w.heap.size ≤ w1.heap.size := by omega); (try have hx1_1 : w.heap.size + 1 ≤ w1.heap.size := by omega); (try have hx1_2 : w.heap.size + 2 ≤ w1.heap.size := by omega)) | (go_at_call 49; (with_reducible refine (isNaN_any _ _).mono ?_); rintro e w' ⟨rfl, rfl⟩))
    go_ret
    exact ⟨rfl, by (repeat (first | with_reducible exact Below.refl _ _ | ((with_reducible refine Below.alloc1 ?_ ?_ _); (· first | omega | (simp; done) | (simp; omega))) | (with_reducible refine Below.drew ?_) | (with_reducible refine below_drewN' ?_ _) | ((with_reducible refine Below.setCell1 ?_ ?_ _); (· first | omega | (simp; done) | (simp; omega))) | ((with_reducible refine Below.after (by assumption) ?_ ?_); (· first | omega | (simp; done) | (simp; omega)))))⟩

set_option maxRecDepth 100000 in
theorem tabPut_set {w : World} {B T : Nat} {v : Value} {most : Int} {its : List ItV} (h : TabAt w B T v most its) (hr : rises its) (kb : Nat) (hk : kb < 2 ^ 64) (n : Int) (h1 : isNaN kb = false) (h2 : 1 ≤ n) (h3 : n ≤ 1099511627776) (hq : plcB its kb = true) :
    Calls Try.prog 15 #[.pointer (some ⟨T, 0, none⟩), .float .f64 kb, .int .i64 n] w (PutRet w B T v most (0, its.set (plcI its kb) ⟨(its[plcI its kb]?.getD default).k, max (its[plcI its kb]?.getD default).n n⟩)) := by
  have H := place_any h hr kb hk
  have hp := plcB_lt hq
  rw [hq] at H
  have hset := itCells_setn its (plcI its kb) (max (its[plcI its kb]?.getD default).n n) hp
  generalize plcI its kb = p at *
  generalize hx : its[p]?.getD default = x at *
  have HX := hid hx
  clear hx
  go_enter Try.func15, Try.ntmps15
  go_wp2_with fail
  ((with_reducible refine (H).mono ?_); rintro e w1 ⟨rfl, hb1⟩; obtain ⟨hc1, hf1⟩ := bcell hb1; (try simp only [World.heap_drewN, World.cell?_drewN, World.frozen?_drewN] at hc1 hf1); have hz1 := hb1.size; (try simp at hz1); (try have hy1_0 : w.heap.size < w1.heap.size := by omega); (try have hy1_1 : w.heap.size + 1 < w1.heap.size := by omega); (try have hy1_2 : w.heap.size + 2 < w1.heap.size := by omega); (try have hy1_3 : w.heap.size + 3 < w1.heap.size := by omega); (try have hx1_0 : w.heap.size ≤ w1.heap.size := by omega); (try have hx1_1 : w.heap.size + 1 ≤ w1.heap.size := by omega); (try have hx1_2 : w.heap.size + 2 ≤ w1.heap.size := by omega))
  have h1' := h.below hb1
  have hub := Upd.of_below hb1 T v
  clear hc1 hf1 hb1 H h hq
  have c1 := cell_row h1'.tab 1
  simp at c1
  have hT1 := h1'.lt
  have hown := h1'.own
  rcases hown.2 with ⟨rfl, h0⟩ | ⟨g, cap, cur, rfl, hbg, hg, hnc, hcm, hcs, htake⟩
  · have := itCells_len its
    rw [h0] at this; simp at this; omega
  · have hgl := (Array.getElem?_eq_some_iff.1 hg).1
    obtain ⟨_, d1⟩ := own_cells hown rfl _ hp
    rw [HX.out] at d1
    have f1 : w1.frozen? ⟨g, p * 2 + 1, none⟩ = false := by simp [World.frozen?, hg]
    have hlen := h1'.len
    have hp' : (p : Int) < (its.length : Int) := by omega
    have hgT : g ≠ T := fun e => h1'.apart (by rw [e]; rfl)
    have fin : PutRet w B T (.slice (some ⟨g, 0, none⟩) its.length cap) most (0, its.set p ⟨x.k, max x.n n⟩) (.returned (.int .i64 0)) (w1.drew.setCell ⟨g, p * 2 + 1, none⟩ (.int .i64 (max x.n n))) := by
      have hown2 : w1.drew.ownsRow B 41 2 (.slice (some ⟨g, 0, none⟩) its.length cap) its.length (itCells its) := hown
      obtain ⟨s1, s2⟩ := hown2.stored (p * 2 + 1) (.int .i64 (max x.n n))
      refine ⟨.slice (some ⟨g, 0, none⟩) its.length cap, rfl, ⟨?_, ?_, h1'.apart, h1'.low, by simpa using hlen⟩, ⟨?_, ?_, ?_, ?_, ?_, .inl rfl⟩⟩
      · rw [s2.block T hT1 (by simp; omega)]; exact h1'.tab
      · rw [List.length_set, hset]; exact s1
      · exact s2.os.trans hub.os
      · exact s2.tape.trans hub.tape
      · exact s2.output.trans hub.output
      · exact Nat.le_trans hub.size s2.size
      · intro k hk hkT hkv
        have := hub.size
        exact (s2.block k (by show k < w1.heap.size; omega) hkv).trans (hub.block k hk hkT hkv)
    have hfin := hid fin
    clear fin hset h1' hub hown hg hcs htake hr
    have h2' : ¬ n < 1 := by omega
    have h3' : ¬ 1099511627776 < n := by omega
    clear h2 h3
    go_wp2_with (go_at_call 49; (with_reducible refine (isNaN_any _ _).mono ?_); rintro e w' ⟨rfl, rfl⟩)
    go_still_tail 15, (by kernel_rfl)
    change wpList _ _ _ _ _ w1.drew
    go_wp2
    go_ret
    exact hfin.out

set_option maxRecDepth 100000 in
theorem tabPut_full {w : World} {B T : Nat} {v : Value} {most : Int} {its : List ItV} (h : TabAt w B T v most its) (hr : rises its) (kb : Nat) (hk : kb < 2 ^ 64) (n : Int) (h1 : isNaN kb = false) (h2 : 1 ≤ n) (h3 : n ≤ 1099511627776) (hq : plcB its kb = false) (hm : (its.length : Int) = most) :
    Calls Try.prog 15 #[.pointer (some ⟨T, 0, none⟩), .float .f64 kb, .int .i64 n] w (PutRet w B T v most (3, its)) := by
  have H := place_any h hr kb hk
  rw [hq] at H
  have fin : ∀ e w', Ret (.int .i64 3) w e w' → PutRet w B T v most (3, its) e w' := fun e w' ⟨h1, h2⟩ => ⟨v, h1, h.below h2, Upd.of_below h2 T v⟩
  refine Calls.mono ?_ fin
  clear fin
  generalize plcI its kb = p at *
  have hT := h.lt
  have c0 := cell_row h.tab 0
  have c1 := cell_row h.tab 1
  simp at c0 c1
  have h2' : ¬ n < 1 := by omega
  have h3' : ¬ 1099511627776 < n := by omega
  have hown := h.own
  rcases hown.2 with ⟨rfl, h0⟩ | ⟨g, cap, cur, rfl, hbg, hg, hnc, hcm, hcs, htake⟩
  · have := itCells_len its
    rw [h0] at this; simp at this
    obtain rfl : most = 0 := by omega
    clear h hown this h0 hq hm
    go_enter Try.func15, Try.ntmps15
    go_wp2_with (first | (go_at_call 47; (with_reducible refine (H).mono ?_); rintro e w1 ⟨rfl, hb1⟩; obtain ⟨hc1, hf1⟩ := bcell hb1; (try simp only [World.heap_drewN, World.cell?_drewN, World.frozen?_drewN] at hc1 hf1); have hz1 := hb1.size; (try simp at hz1); (try have hy1_0 : w.heap.size < w1.heap.size := by omega); (try have hy1_1 : w.heap.size + 1 < w1.heap.size := by omega); (try have hy1_2 : w.heap.size + 2 < w1.heap.size := by omega); (try have hy1_3 : w.heap.size + 3 < w1.heap.size := by omega); (try have hx1_0 : w.heap.size ≤ w1.heap.size := by omega); (try have hx1_1 : w.heap.size + 1 ≤ w1.heap.size := by omega); (try have hx1_2 : w.heap.size + 2 ≤ w1.heap.size := by omega)) | (go_at_call 49; (with_reducible refine (isNaN_any _ _).mono ?_); rintro e w' ⟨rfl, rfl⟩))
    go_quiet (fail)
    go_wp2
    go_ret
    exact ⟨rfl, by (repeat (first | with_reducible exact Below.refl _ _ | ((with_reducible refine Below.alloc1 ?_ ?_ _); (· first | omega | (simp; done) | (simp; omega))) | (with_reducible refine Below.drew ?_) | (with_reducible refine below_drewN' ?_ _) | ((with_reducible refine Below.setCell1 ?_ ?_ _); (· first | omega | (simp; done) | (simp; omega))) | ((with_reducible refine Below.after (by assumption) ?_ ?_); (· first | omega | (simp; done) | (simp; omega)))))⟩
  · generalize its.length = m at *
    subst hm
    clear h hown hq hg hcs htake
    go_enter Try.func15, Try.ntmps15
    go_wp2_with (first | (go_at_call 47; (with_reducible refine (H).mono ?_); rintro e w1 ⟨rfl, hb1⟩; obtain ⟨hc1, hf1⟩ := bcell hb1; (try simp only [World.heap_drewN, World.cell?_drewN, World.frozen?_drewN] at hc1 hf1); have hz1 := hb1.size; (try simp at hz1); (try have hy1_0 : w.heap.size < w1.heap.size := by omega); (try have hy1_1 : w.heap.size + 1 < w1.heap.size := by omega); (try have hy1_2 : w.heap.size + 2 < w1.heap.size := by omega); (try have hy1_3 : w.heap.size + 3 < w1.heap.size := by omega); (try have hx1_0 : w.heap.size ≤ w1.heap.size := by omega); (try have hx1_1 : w.heap.size + 1 ≤ w1.heap.size := by omega); (try have hx1_2 : w.heap.size + 2 ≤ w1.heap.size := by omega)) | (go_at_call 49; (with_reducible refine (isNaN_any _ _).mono ?_); rintro e w' ⟨rfl, rfl⟩))
    go_quiet (fail)
    go_wp2
    go_ret
    exact ⟨rfl, by (repeat (first | with_reducible exact Below.refl _ _ | ((with_reducible refine Below.alloc1 ?_ ?_ _); (· first | omega | (simp; done) | (simp; omega))) | (with_reducible refine Below.drew ?_) | (with_reducible refine below_drewN' ?_ _) | ((with_reducible refine Below.setCell1 ?_ ?_ _); (· first | omega | (simp; done) | (simp; omega))) | ((with_reducible refine Below.after (by assumption) ?_ ?_); (· first | omega | (simp; done) | (simp; omega)))))⟩
end Go.Proofs.Ytnlaepogkepnhaa
