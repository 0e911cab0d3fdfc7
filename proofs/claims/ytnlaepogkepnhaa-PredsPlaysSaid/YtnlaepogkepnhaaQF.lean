/- The table of layer 10: All. -/
import Derived.Test.YtnlaepogkepnhaaQE
namespace Go.Proofs.Ytnlaepogkepnhaa.Q
set_option linter.unusedVariables false
open Go.RowKit Fl

def AllRet (w : World) (its : List ItV) (e : Ending) (w' : World) : Prop :=
  ∃ v', e = .returned v' ∧ w'.ownsRow w.heap.size 70 5 v' its.length (itCells its) ∧ Below w.heap.size w w'

theorem below_of_grown {w w' : World} (h : w.grownBy w' none) : Below w.heap.size w w' := ⟨h.os, h.tape, h.output, h.size, fun k hk => h.block k hk (by simp)⟩

theorem vSlNil (w : World) (a : Option Addr) (n c : Nat) : (binOp .eql 67 (.slice a n c) (.slice none 0 0)).run Try.prog w = .ok (.bool a.isNone) w := Go.Lib.run_eql_slice_nil w _ _ a n c 0 0 Try.underlying67
set_option maxRecDepth 100000 in
theorem vClone_row (g n c : Nat) (its : List ItV) (cur : Array Value) (w : World) (hn : its.length = n) (hlen : n ≤ 64) (hnc : n ≤ c) (hcm : c ≤ maxLen)
    (hg : w.heap[g]? = some (.cells cur 70 (0, 0))) (hcs : cur.size = c * 5) (htake : cur.toList.take (n * 5) = itCells its) :
    Calls Try.prog 65 #[.slice (some ⟨g, 0, none⟩) n c] w (AllRet w its) := by
  obtain ⟨i0, hi0, hz0, hzs, hzb⟩ := info_parts vItemInfo
  have hgl := (Array.getElem?_eq_some_iff.1 hg).1
  have hrow0 : w.ownsRow 0 70 5 (.slice (some ⟨g, 0, none⟩) n c) n (itCells its) := ⟨by rw [itCells_len, hn], .inr ⟨g, c, cur, rfl, Nat.zero_le _, hg, hnc, hcm, hcs, htake⟩⟩
  have hb1 : Below w.heap.size w (w.alloc (.cells #[] 70)) := by (repeat (first | with_reducible exact Below.refl _ _ | ((with_reducible refine Below.alloc1 ?_ ?_ _); (· first | omega | (simp; done) | (simp; omega))) | (with_reducible refine Below.drew ?_) | (with_reducible refine below_drewN' ?_ _) | ((with_reducible refine Below.setCell1 ?_ ?_ _); (· first | omega | (simp; done) | (simp; omega))) | ((with_reducible refine Below.after (by assumption) ?_ ?_); (· first | omega | (simp; done) | (simp; omega)))))
  have hown1 : (w.alloc (.cells #[] 70)).ownsRow w.heap.size 70 5 (.slice (some ⟨w.heap.size, 0, none⟩) 0 0) 0 [] :=
    ⟨rfl, .inr ⟨w.heap.size, 0, #[], rfl, Nat.le_refl _, heap_alloc_new w _, Nat.le_refl _, by unfold maxLen; omega, rfl, rfl⟩⟩
  by_cases h0 : n = 0
  · subst h0
    obtain rfl : its = [] := List.eq_nil_of_length_eq_zero hn
    have fin : AllRet w [] (.returned (.slice (some ⟨w.heap.size, 0, none⟩) 0 0)) (w.alloc (.cells #[] 70)) := ⟨_, rfl, hown1, hb1⟩
    have hfin := hid fin
    clear hrow0 hb1 hown1 htake hcs hg fin hz0 hzs hzb
    have hE := vSlNil
    go_enter Try.func65, Try.ntmps65
    go_wp2
    go_ret
    exact hfin.out
  · obtain ⟨v', w', hr, h2, h3⟩ := run_append_own2 (P := Try.prog) (w.alloc (.cells #[] 70)) w.heap.size 67 70 i0 _ 5 32 Try.underlying67 hi0 hz0 hzs hzb rfl (by omega) _ 0 [] hown1 ⟨g, 0, none⟩ n c (itCells its) (by rw [itCells_len, hn])
      (fun j u hj => by
        have := (hrow0.kept (grown_of_below hb1) (by simp [Value.ownBlock])).cells (g := g) rfl j u hj
        exact this) (itCells_one its) (by omega) (by unfold maxLen; omega) (by omega) (by simp)
    have fin : AllRet w its (.returned v') w' := ⟨v', rfl, by rw [hn]; simpa using h2, ⟨h3.1.os.trans hb1.os, h3.1.tape.trans hb1.tape, h3.1.output.trans hb1.output, Nat.le_trans hb1.size h3.1.size, fun k hk => (h3.1.block k (by simp; omega) (by simp [Value.ownBlock]; omega)).trans (hb1.block k hk)⟩⟩
    have hfin := hid fin
    clear hrow0 hb1 hown1 htake hcs hg fin hz0 hzs hzb h2 h3
    have hE := vSlNil
    go_enter Try.func65, Try.ntmps65
    go_wp2_with (at_builtin; refine Lib.wpList_append_run _ rfl _ _ _ _ rfl _ _ rfl rfl _ _ (hr _) ?_)
    go_ret
    exact hfin.out

theorem vClone_any {w : World} {B : Nat} {v : Value} {its : List ItV} (hown : w.ownsRow B 70 5 v its.length (itCells its)) (hl : its.length ≤ 64) :
    Calls Try.prog 65 #[v] w (AllRet w its) := by
  rcases hown.2 with ⟨rfl, h0⟩ | ⟨g, cap, cur, rfl, hbg, hg, hnc, hcm, hcs, htake⟩
  · have := itCells_len its
    rw [h0] at this; simp at this
    obtain rfl : its = [] := List.eq_nil_of_length_eq_zero (by omega)
    have fin : ∀ W, Below w.heap.size w W → AllRet w [] (.returned (.slice none 0 0)) W := fun W hb => ⟨_, rfl, World.ownsRow_nil _ _ _ _, hb⟩
    have hfin := hid fin
    clear fin
    have hE := vSlNil
    go_enter Try.func65, Try.ntmps65
    go_wp2
    go_ret
    exact hfin.out _ (by (repeat (first | with_reducible exact Below.refl _ _ | ((with_reducible refine Below.alloc1 ?_ ?_ _); (· first | omega | (simp; done) | (simp; omega))) | (with_reducible refine Below.drew ?_) | (with_reducible refine below_drewN' ?_ _) | ((with_reducible refine Below.setCell1 ?_ ?_ _); (· first | omega | (simp; done) | (simp; omega))) | ((with_reducible refine Below.after (by assumption) ?_ ?_); (· first | omega | (simp; done) | (simp; omega))))))
  · exact vClone_row g its.length cap its cur w rfl hl hnc hcm hg hcs htake

theorem tabAll_any {w : World} {B T : Nat} {v : Value} {most : Int} {its : List ItV} (h : TabAt w B T v most its) :
    Calls Try.prog 34 #[.pointer (some ⟨T, 0, none⟩)] w (AllRet w its) := by
  have H := vClone_any h.own h.len
  have c1 := cell_row h.tab 1
  simp at c1
  have fin : ∀ v' w1 W, w1.ownsRow w.heap.size 70 5 v' its.length (itCells its) → Below w.heap.size w w1 → Below w1.heap.size w1 W → AllRet w its (.returned v') W := fun v' w1 W h1 h2 h3 =>
    ⟨v', rfl, h1.kept (grown_of_below h3) (by cases v'.ownBlock <;> simp), h2.trans (h3.mono h2.size)⟩
  have hfin := hid fin
  clear fin h
  go_enter Try.func34, Try.ntmps34
  go_wp2_with fail
  with_reducible refine H.mono ?_
  rintro e w1 ⟨v', rfl, h1, h2⟩
  have g1 := hid h1
  clear h1 H
  go_wp2
  go_ret
  exact hfin.out v' w1 _ g1.out h2 (Below.refl _ _)
end Go.Proofs.Ytnlaepogkepnhaa.Q
