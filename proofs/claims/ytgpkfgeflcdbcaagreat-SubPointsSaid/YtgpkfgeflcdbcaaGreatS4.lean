/- Does one submission read what another one writes: the program's function and the document's. -/
import Derived.Test.YtgpkfgeflcdbcaaGreatS3
namespace Go.Proofs.YtgpkfgeflcdbcaaGreat
set_option linter.unusedVariables false
open Go.RowKit Fl

theorem size2 (w : World) (a b : Obj) : w.heap.size < ((w.alloc a).alloc b).heap.size := by simp; omega
theorem subMeets_any (x y : SubV) (w : World) (hx : x.At w) (hy : y.At w) :
    Calls Tryz.prog 26 #[.agg #[.int .i64 x.s0, .int .i64 x.s1, .int .i64 x.s2, .slice x.ra x.rs.length x.rc, .slice x.sa x.ss.length x.sc, .slice x.wa x.ws.length x.wc], .agg #[.int .i64 y.s0, .int .i64 y.s1, .int .i64 y.s2, .slice y.ra y.rs.length y.rc, .slice y.sa y.ss.length y.sc, .slice y.wa y.ws.length y.wc]] w (Ret (.bool (x.meets y)) w) := by
  have H := fun W (hb : Below w.heap.size w W) hB => slContainsFuncF_any x y.wa y.wc w.heap.size y.ws y.ws.length W rfl (hy.w.below hb) (hx.below hb) hB
  unfold SubV.meets
  generalize (y.ws.any fun k => x.reads k) = v at *
  generalize x.rs.length = n1 at *
  generalize x.ss.length = n2 at *
  generalize x.ws.length = n3 at *
  generalize y.rs.length = n4 at *
  generalize y.ss.length = n5 at *
  generalize y.ws.length = n6 at *
  go_enter Tryz.func26, Tryz.ntmps26
  go_wp2_with (go_at_call 61; (with_reducible refine (H _ (by (repeat (first | with_reducible exact Below.refl _ _ | ((with_reducible refine Below.alloc1 ?_ ?_ _); (· first | omega | (simp; done) | (simp; omega))) | (with_reducible refine Below.drew ?_) | (with_reducible refine below_drewN' ?_ _) | ((with_reducible refine Below.setCell1 ?_ ?_ _); (· first | omega | (simp; done) | (simp; omega))) | ((with_reducible refine Below.after (by assumption) ?_ ?_); (· first | omega | (simp; done) | (simp; omega)))))) (size2 _ _ _) (by go_simp) (by go_simp) (by go_simp) (by go_simp) (by go_simp) (by go_simp)).mono ?_); rintro e w1 ⟨rfl, hb1⟩; obtain ⟨hc1, hf1⟩ := bcell hb1; (try simp only [World.heap_drewN, World.cell?_drewN, World.frozen?_drewN] at hc1 hf1); have hz1 := hb1.size; (try simp at hz1); (try have hy1_0 : w.heap.size < w1.heap.size := by omega); (try have hy1_1 : w.heap.size + 1 < w1.heap.size := by omega); (try have hy1_2 : w.heap.size + 2 < w1.heap.size := by omega); (try have hy1_3 : w.heap.size + 3 < w1.heap.size := by omega); (try have hx1_0 : w.heap.size ≤ w1.heap.size := by omega); (try have hx1_1 : w.heap.size + 1 ≤ w1.heap.size := by omega); (try have hx1_2 : w.heap.size + 2 ≤ w1.heap.size := by omega))
  go_ret
  exact ⟨rfl, by (repeat (first | with_reducible exact Below.refl _ _ | ((with_reducible refine Below.alloc1 ?_ ?_ _); (· first | omega | (simp; done) | (simp; omega))) | (with_reducible refine Below.drew ?_) | (with_reducible refine below_drewN' ?_ _) | ((with_reducible refine Below.setCell1 ?_ ?_ _); (· first | omega | (simp; done) | (simp; omega))) | ((with_reducible refine Below.after (by assumption) ?_ ?_); (· first | omega | (simp; done) | (simp; omega)))))⟩

theorem cells66 {w : World} {x0 x1 x2 x3 x4 x5 y0 y1 y2 y3 y4 y5 : Value} {T : TypeId} {wr : World} (h : Below (w.heap.size + 2) ((w.alloc (.cells #[x0, x1, x2, x3, x4, x5] T (0, 0))).alloc (.cells #[y0, y1, y2, y3, y4, y5] T (0, 0))) wr) :
    (wr.cell? ⟨w.heap.size, 0, none⟩ = some x0 ∧ wr.cell? ⟨w.heap.size, 1, none⟩ = some x1 ∧ wr.cell? ⟨w.heap.size, 2, none⟩ = some x2 ∧ wr.cell? ⟨w.heap.size, 3, none⟩ = some x3 ∧ wr.cell? ⟨w.heap.size, 4, none⟩ = some x4 ∧ wr.cell? ⟨w.heap.size, 5, none⟩ = some x5) ∧
    wr.cell? ⟨w.heap.size + 1, 0, none⟩ = some y0 ∧ wr.cell? ⟨w.heap.size + 1, 1, none⟩ = some y1 ∧ wr.cell? ⟨w.heap.size + 1, 2, none⟩ = some y2 ∧ wr.cell? ⟨w.heap.size + 1, 3, none⟩ = some y3 ∧ wr.cell? ⟨w.heap.size + 1, 4, none⟩ = some y4 ∧ wr.cell? ⟨w.heap.size + 1, 5, none⟩ = some y5 := by
  have k := fun j => h.cell (p := ⟨w.heap.size, j, none⟩) (by show w.heap.size < _; omega)
  have k' := fun j => h.cell (p := ⟨w.heap.size + 1, j, none⟩) (by show w.heap.size + 1 < _; omega)
  refine ⟨⟨(k 0).trans ?_, (k 1).trans ?_, (k 2).trans ?_, (k 3).trans ?_, (k 4).trans ?_, (k 5).trans ?_⟩, (k' 0).trans ?_, (k' 1).trans ?_, (k' 2).trans ?_, (k' 3).trans ?_, (k' 4).trans ?_, (k' 5).trans ?_⟩ <;> go_simp

end Go.Proofs.YtgpkfgeflcdbcaaGreat
