/- The table of layer 10: Drop whole. -/
import Derived.Test.YtnlaepogkepnhaaQD
namespace Go.Proofs.Ytnlaepogkepnhaa.Q
set_option linter.unusedVariables false
open Go.RowKit Fl

theorem vIdx_nil (B : Nat) (m : Int) (w : World) :
    Calls Try.prog 89 #[.slice none 0 0, .func (.func 67) #[] #[.pointer (some ⟨B, 0, none⟩)]] w (Ret (.int .i64 (-1)) w) := by
  go_enter Try.func89, Try.ntmps89
  go_wp2
  go_loopw [8] (fun i wr => i = .int .i64 0 ∧ Below w.heap.size w wr) (fun _ _ => 0)
  case atStart => exact ⟨rfl, Below.refl _ _⟩
  case round =>
    obtain ⟨rfl, hbw⟩ := hrel
    go_wp2
    go_ret
    exact ⟨rfl, by (repeat (first | with_reducible exact Below.refl _ _ | ((with_reducible refine Below.alloc1 ?_ ?_ _); (· first | omega | (simp; done) | (simp; omega))) | (with_reducible refine Below.drew ?_) | (with_reducible refine below_drewN' ?_ _) | ((with_reducible refine Below.setCell1 ?_ ?_ _); (· first | omega | (simp; done) | (simp; omega))) | ((with_reducible refine Below.after (by assumption) ?_ ?_); (· first | omega | (simp; done) | (simp; omega)))))⟩

theorem vDelete_nil (B : Nat) (m : Int) (w : World) :
    Calls Try.prog 66 #[.slice none 0 0, .func (.func 67) #[] #[.pointer (some ⟨B, 0, none⟩)]] w (Ret (.slice none 0 0) w) := by
  have H := fun w => vIdx_nil B m w
  go_enter Try.func66, Try.ntmps66
  go_wp2_with (go_at_call 89; (with_reducible refine (H _).mono ?_); rintro e w1 ⟨rfl, hb1⟩; obtain ⟨hc1, hf1⟩ := bcell hb1; (try simp only [World.heap_drewN, World.cell?_drewN, World.frozen?_drewN] at hc1 hf1); have hz1 := hb1.size; (try simp at hz1); (try have hy1_0 : w.heap.size < w1.heap.size := by omega); (try have hy1_1 : w.heap.size + 1 < w1.heap.size := by omega); (try have hy1_2 : w.heap.size + 2 < w1.heap.size := by omega); (try have hy1_3 : w.heap.size + 3 < w1.heap.size := by omega); (try have hx1_0 : w.heap.size ≤ w1.heap.size := by omega); (try have hx1_1 : w.heap.size + 1 ≤ w1.heap.size := by omega); (try have hx1_2 : w.heap.size + 2 ≤ w1.heap.size := by omega))
  go_ret
  exact ⟨rfl, by (repeat (first | with_reducible exact Below.refl _ _ | ((with_reducible refine Below.alloc1 ?_ ?_ _); (· first | omega | (simp; done) | (simp; omega))) | (with_reducible refine Below.drew ?_) | (with_reducible refine below_drewN' ?_ _) | ((with_reducible refine Below.setCell1 ?_ ?_ _); (· first | omega | (simp; done) | (simp; omega))) | ((with_reducible refine Below.after (by assumption) ?_ ?_); (· first | omega | (simp; done) | (simp; omega)))))⟩

def DelRet (w : World) (B : Nat) (v : Value) (m : Int) (its : List ItV) (e : Ending) (W : World) : Prop :=
  ∃ v', e = .returned v' ∧ v'.ownBlock = v.ownBlock ∧ W.ownsRow B 70 5 v' (kept m its).length (itCells (kept m its)) ∧ w.grownBy W v.ownBlock

theorem kept_length_le (m : Int) (its : List ItV) : (kept m its).length ≤ its.length := List.length_filter_le _ _

theorem vDelete_any {w : World} {B : Nat} {v : Value} {its : List ItV} (BX : Nat) (m : Int) (hown : w.ownsRow B 70 5 v its.length (itCells its)) (hl : its.length ≤ 64) (hB : BX < w.heap.size) (hBv : v.ownBlock ≠ some BX) (hm : w.cell? ⟨BX, 0, none⟩ = some (.int .i64 m)) :
    Calls Try.prog 66 #[v, .func (.func 67) #[] #[.pointer (some ⟨BX, 0, none⟩)]] w (DelRet w B v m its) := by
  rcases hown.2 with ⟨rfl, h0⟩ | ⟨g, cap, cur, rfl, hbg, hg, hnc, hcm, hcs, htake⟩
  · have := itCells_len its
    rw [h0] at this; simp at this
    obtain rfl : its = [] := List.eq_nil_of_length_eq_zero (by omega)
    refine (vDelete_nil BX m w).mono ?_
    rintro e W ⟨rfl, hb⟩
    exact ⟨_, rfl, rfl, World.ownsRow_nil _ _ _ _, grown_row (grown_of_below hb)⟩
  · refine (vDelete_row g cap its.length BX m its cur w rfl hl hB (fun e => hBv (by rw [e]; rfl)) hm hnc (by have := hcm; unfold maxLen at this; omega) hg hcs htake).mono ?_
    rintro e W ⟨rfl, hgr, cur', hg', hcs', ht'⟩
    have := kept_length_le m its
    exact ⟨_, rfl, rfl, ⟨itCells_len _, .inr ⟨g, cap, cur', rfl, hbg, hg', by omega, hcm, by omega, ht'⟩⟩, hgr⟩

def DropRet (w : World) (B T : Nat) (v : Value) (most : Int) (its : List ItV) (m : Int) (e : Ending) (w' : World) : Prop :=
  ∃ v', e = .returned (.int .i64 ((its.length : Int) - (kept m its).length)) ∧ TabAt w' B T v' most (kept m its) ∧ Upd w w' T v v'

theorem drop_fin {w w3 : World} {B T : Nat} {v v' : Value} {most : Int} {its : List ItV} {m : Int} (h : TabAt w B T v most its) (hob : v'.ownBlock = v.ownBlock) (hown : w3.ownsRow B 70 5 v' (kept m its).length (itCells (kept m its))) (hgr : w.grownBy w3 v.ownBlock) :
    w3.heap[T]? = some (.cells #[.int .i64 most, v] 109 (0, 0)) ∧ TabAt (w3.setCell ⟨T, 1, none⟩ v') B T v' most (kept m its) ∧ Upd w (w3.setCell ⟨T, 1, none⟩ v') T v v' := by
  have t3 : w3.heap[T]? = some (.cells #[.int .i64 most, v] 109 (0, 0)) := (hgr.block T h.lt (fun e => h.apart e.symm)).trans h.tab
  have hk3 := grownBy_setRow w3 T (#[Value.int .i64 most, v].setIfInBounds 1 v')
  have hap : v'.ownBlock ≠ some T := by rw [hob]; exact h.apart
  refine ⟨t3, ?_⟩
  rw [setCell_eq_setRow w3 T 1 _ _ _ _ t3]
  refine ⟨⟨?_, hown.kept hk3 (.inr hap), hap, h.low, Nat.le_trans (kept_length_le m its) h.len⟩, ⟨hk3.os.trans hgr.os, hk3.tape.trans hgr.tape, hk3.output.trans hgr.output, Nat.le_trans hgr.size hk3.size, ?_, .inl hob⟩⟩
  · rw [setRow_heap w3 T _ _ _ _ t3]; rfl
  · intro k hk hkT hkv
    have := hgr.size
    exact (hk3.block k (by omega) (by simpa using hkT)).trans (hgr.block k hk hkv)

theorem tabDrop_any {w : World} {B T : Nat} {v : Value} {most : Int} {its : List ItV} (h : TabAt w B T v most its) (m : Int) :
    Calls Try.prog 36 #[.pointer (some ⟨T, 0, none⟩), .int .i64 m] w (DropRet w B T v most its m) := by
  obtain ⟨va, vc, rfl⟩ := own_slice h.own
  have c1 := cell_row h.tab 1
  simp at c1
  have hlt := h.own.lt
  have HD : ∀ W, Below w.heap.size w W → w.heap.size < W.heap.size → W.cell? ⟨w.heap.size, 0, none⟩ = some (.int .i64 m) →
      Calls Try.prog 66 #[.slice va its.length vc, .func (.func 67) #[] #[.pointer (some ⟨w.heap.size, 0, none⟩)]] W
        fun e w3 => ∃ a n c, e = .returned (.slice a n c) ∧ n = (kept m its).length ∧ w3.cell? ⟨T, 1, none⟩ = some (.slice va its.length vc) ∧ w3.frozen? ⟨T, 1, none⟩ = false ∧ T < w3.heap.size ∧
          TabAt (w3.setCell ⟨T, 1, none⟩ (.slice a n c)) B T (.slice a n c) most (kept m its) ∧ Upd w (w3.setCell ⟨T, 1, none⟩ (.slice a n c)) T (.slice va its.length vc) (.slice a n c) := by
    intro W hb hl hc
    refine (vDelete_any w.heap.size m (h.below hb).own h.len hl (fun e => by have := (hlt _ e).2; omega) hc).mono ?_
    rintro e w3 ⟨v', rfl, hob, hown, hgr⟩
    have hgr' := grown_trans (grown_row (r := (Value.slice va its.length vc).ownBlock) (grown_of_below hb)) hgr
    obtain ⟨t3, h1, h2⟩ := drop_fin h hob hown hgr'
    obtain ⟨a, c, rfl⟩ := own_slice hown
    have hc3 := cell_row t3 1
    simp at hc3
    exact ⟨a, _, c, rfl, rfl, hc3, by simp [World.frozen?, t3], (Array.getElem?_eq_some_iff.1 t3).1, h1, h2⟩
  have hT := h.lt
  have hkl := kept_length_le m its
  have hl64 := h.len
  have fin : ∀ (W : World) a c, TabAt W B T (.slice a (kept m its).length c) most (kept m its) → Upd w W T (.slice va its.length vc) (.slice a (kept m its).length c) → DropRet w B T (.slice va its.length vc) most its m (.returned (.int .i64 ((its.length : Int) - (kept m its).length))) W := fun W a c h1 h2 => ⟨_, rfl, h1, h2⟩
  have hfin := hid fin
  clear fin hlt h
  generalize its.length = n at *
  generalize hkk : (kept m its).length = nk at *
  go_enter Try.func36, Try.ntmps36
  go_wp2_with fail
  with_reducible refine (HD _ (by (repeat (first | with_reducible exact Below.refl _ _ | ((with_reducible refine Below.alloc1 ?_ ?_ _); (· first | omega | (simp; done) | (simp; omega))) | (with_reducible refine Below.drew ?_) | (with_reducible refine below_drewN' ?_ _) | ((with_reducible refine Below.setCell1 ?_ ?_ _); (· first | omega | (simp; done) | (simp; omega))) | ((with_reducible refine Below.after (by assumption) ?_ ?_); (· first | omega | (simp; done) | (simp; omega)))))) (by first | assumption | (simp; done) | (simp; omega)) (by go_simp)).mono ?_
  rintro e w3 ⟨a, n', c, rfl, rfl, c3, f3, hT3, h1, h2⟩
  have g1 := hid h1
  have g2 := hid h2
  clear h1 h2 HD
  go_wp2
  go_ret
  exact hfin.out _ a c g1.out g2.out
end Go.Proofs.Ytnlaepogkepnhaa.Q
