/- Rows of numbers of one's own. -/
import Derived.Test.YtekmadgacepdfaaGreatKP
import Derived.Test.YtekmadgacepdfaaGreatMR
import Derived.Test.YtekmadgacepdfaaGreatNK
import Derived.OneCell
import Derived.Deep.CutBlock
import Derived.Lib.AppendZerosOnto
import Derived.WalkSpells
import Derived.Outline
namespace Go.Proofs.YtekmadgacepdfaaGreat.K
set_option linter.unusedVariables false
open Go.RowKit Fl Go.Sort

def fCells (xs : List Nat) : List Value := xs.map fun b => .float .f64 b
theorem fCells_len (xs : List Nat) : (fCells xs).length = xs.length := List.length_map _
theorem floatInfo : (Tryz.prog.info? 64).map (fun i => (i.zero, i.size, i.bytes)) = some (some (.float .f64 0), 1, 8) := by kernel_rfl
theorem addr0 (g j : Nat) : (⟨g, 0, none⟩ : Addr).add j = ⟨g, j, none⟩ := by rw [Addr.add_lit, Nat.zero_add]
theorem grown_of_below {w w' : World} (h : Below w.heap.size w w') : w.grownBy w' none := ⟨h.os, h.tape, h.output, h.size, fun k hk _ => h.block k hk⟩
theorem own_le {w : World} {base base' size n : Nat} {e : TypeId} {v : Value} {xs : List Value} (h : w.ownsRow base e size v n xs) (hb : base' ≤ base) : w.ownsRow base' e size v n xs :=
 ⟨h.1, h.2.imp id fun ⟨g, cap, cur, h1, h2, h3⟩ => ⟨g, cap, cur, h1, Nat.le_trans hb h2, h3⟩⟩
theorem own_sliceF {w : World} {B n : Nat} {v : Value} {cs : List Value} (h : w.ownsRow B 64 1 v n cs) : ∃ va vc, v = .slice va n vc := by
 rcases h.2 with ⟨rfl, h0⟩ | ⟨g, cap, cur, rfl, _⟩
 ·exact ⟨none, 0, by rw [h0]⟩
 ·exact ⟨_, _, rfl⟩
theorem appF {w : World} {base : Nat} {a : Option Addr} {c n : Nat} {xs : List Nat} (b : Nat) (hn : xs.length = n) (hown : w.ownsRow base 64 1 (.slice a n c) n (fCells xs)) (hbase : base ≤ w.heap.size) (hl : n ≤ 17592186044414) :
  ∃ a' c' w', (∀ ty, (Builtin.append_ #[32, 32] ty #[.slice a n c, .slice (some ⟨w.heap.size, 0, none⟩) 1 1]).run Tryz.prog (w.alloc (.cells #[.float .f64 b] 64)) = .ok (.slice a' (n + 1) c') w') ∧
   w'.ownsRow base 64 1 (.slice a' (n + 1) c') (n + 1) (fCells (xs ++ [b])) ∧ Below base w w' := by
 obtain ⟨i0, hi0, hz0, hzs, hzb⟩ := info_parts floatInfo
 have hb1 : Below w.heap.size w (w.alloc (.cells #[.float .f64 b] 64)) := by (repeat (first | with_reducible exact Below.refl _ _ | ((with_reducible refine Below.alloc1 ?_ ?_ _); (· first | omega | (simp; done) | (simp; omega))) | (with_reducible refine Below.drew ?_) | (with_reducible refine below_drewN' ?_ _) | ((with_reducible refine Below.setCell1 ?_ ?_ _); (· first | omega | (simp; done) | (simp; omega))) | ((with_reducible refine Below.after (by assumption) ?_ ?_); (· first | omega | (simp; done) | (simp; omega)))))
 have hown1 := hown.kept (grown_of_below hb1) (by cases (Value.slice a n c).ownBlock <;> simp)
 obtain ⟨v', w', hr, h2, h3⟩ := run_append_own2 (P := Tryz.prog) (w.alloc (.cells #[.float .f64 b] 64)) base 32 64 i0 _ 1 8 Tryz.underlying32 hi0 hz0 hzs hzb rfl (by omega) _ _ _ hown1 ⟨w.heap.size, 0, none⟩ 1 1 [.float .f64 b] rfl
  (fun j u hj => by
   have hrow : (w.alloc (.cells #[.float .f64 b] 64)).heap[w.heap.size]? = some (.cells #[.float .f64 b] 64 (0, 0)) := heap_alloc_new w _
   rw [addr0, cell_of_row _ _ j _ _ (0, 0) hrow]
   rw [← hj]; simp) (by intro u hu; rw [List.mem_singleton.1 hu]; rfl) (by omega) (by unfold maxLen; omega) (by omega) (by simp; omega)
 have hc : fCells xs ++ [.float .f64 b] = fCells (xs ++ [b]) := by simp [fCells]
 rw [hc] at h2
 obtain ⟨a', c', rfl⟩ := own_sliceF h2
 exact ⟨a', c', w', hr, h2, (hb1.mono hbase).grown h3.1 (by simp; omega) (fun k hk => (hown.lt k hk).1)⟩
theorem own_fat {w : World} {base n : Nat} {a : Option Addr} {c : Nat} {xs : List Nat} (hn : xs.length = n) (h : w.ownsRow base 64 1 (.slice a n c) n (fCells xs)) (hl : n ≤ 17592186044416) (hlt : ∀ x ∈ xs, x < 2 ^ 64) : FAt w a xs := by
 refine ⟨?_, fun i hi => ?_, by unfold maxLen; omega⟩
 ·rcases h.2 with ⟨h1, h2⟩ | ⟨g, cap, cur, h1, _⟩
  ·exact .inl (List.eq_nil_of_length_eq_zero (by omega))
  ·cases h1
   refine .inr ⟨g, 0, rfl, (h.lt g rfl).2, fun i hi => ?_⟩
   have := h.cells (g := g) rfl i (.float .f64 (xs[i]?.getD 0)) (by unfold fCells; rw [List.getElem?_map, fl_some hi]; rfl)
   rw [addr0] at this
   rw [Nat.zero_add]; exact this
 ·rw [List.getElem?_eq_getElem hi]
  exact hlt _ (List.getElem_mem hi)

def bits (l : List CB) : List Nat := l.map CB.b
theorem bits_len (l : List CB) : (bits l).length = l.length := List.length_map _
theorem fCells_bits (l : List CB) : fCells (bits l) = l.map fun x => .float .f64 x.b := by simp [fCells, bits]
theorem bits_lt (l : List CB) : ∀ x ∈ bits l, x < 2 ^ 64 := by
 intro x hx
 obtain ⟨y, _, rfl⟩ := List.mem_map.1 hx
 exact y.lt
theorem set1 {w : World} {g i : Nat} {T : TypeId} {cur : Array Value} (h : w.heap[g]? = some (.cells cur T (0, 0))) (v : Value) : (w.setCell ⟨g, i, none⟩ v).heap[g]? = some (.cells (cur.setIfInBounds i v) T (0, 0)) ∧ w.grownBy (w.setCell ⟨g, i, none⟩ v) (some g) := by
 rw [setCell_eq_setRow w g i _ _ _ _ h]
 exact ⟨setRow_heap w g cur _ T (0, 0) h, grownBy_setRow w g _⟩
theorem set6 {w : World} {g : Nat} {T : TypeId} {a0 a1 a2 a3 a4 a5 : Value} (h : w.heap[g]? = some (.cells #[a0, a1, a2, a3, a4, a5] T (0, 0))) (v0 v1 v2 v3 v4 v5 : Value) :
  ((((((w.setCell ⟨g, 0, none⟩ v0).setCell ⟨g, 1, none⟩ v1).setCell ⟨g, 2, none⟩ v2).setCell ⟨g, 3, none⟩ v3).setCell ⟨g, 4, none⟩ v4).setCell ⟨g, 5, none⟩ v5).heap[g]? = some (.cells #[v0, v1, v2, v3, v4, v5] T (0, 0)) ∧
  w.grownBy ((((((w.setCell ⟨g, 0, none⟩ v0).setCell ⟨g, 1, none⟩ v1).setCell ⟨g, 2, none⟩ v2).setCell ⟨g, 3, none⟩ v3).setCell ⟨g, 4, none⟩ v4).setCell ⟨g, 5, none⟩ v5) (some g) := by
 rw [setCell_eq_setRow w g 0 _ _ _ _ h]
 have h1 := setRow_heap w g _ (#[a0, a1, a2, a3, a4, a5].setIfInBounds 0 v0) T (0, 0) h
 rw [setCell_eq_setRow _ g 1 _ _ _ _ h1]
 have h2 := setRow_heap _ g _ ((#[a0, a1, a2, a3, a4, a5].setIfInBounds 0 v0).setIfInBounds 1 v1) T (0, 0) h1
 rw [setCell_eq_setRow _ g 2 _ _ _ _ h2]
 have h3 := setRow_heap _ g _ (((#[a0, a1, a2, a3, a4, a5].setIfInBounds 0 v0).setIfInBounds 1 v1).setIfInBounds 2 v2) T (0, 0) h2
 rw [setCell_eq_setRow _ g 3 _ _ _ _ h3]
 have h4 := setRow_heap _ g _ ((((#[a0, a1, a2, a3, a4, a5].setIfInBounds 0 v0).setIfInBounds 1 v1).setIfInBounds 2 v2).setIfInBounds 3 v3) T (0, 0) h3
 rw [setCell_eq_setRow _ g 4 _ _ _ _ h4]
 have h5 := setRow_heap _ g _ (((((#[a0, a1, a2, a3, a4, a5].setIfInBounds 0 v0).setIfInBounds 1 v1).setIfInBounds 2 v2).setIfInBounds 3 v3).setIfInBounds 4 v4) T (0, 0) h4
 rw [setCell_eq_setRow _ g 5 _ _ _ _ h5]
 have h6 := setRow_heap _ g _ ((((((#[a0, a1, a2, a3, a4, a5].setIfInBounds 0 v0).setIfInBounds 1 v1).setIfInBounds 2 v2).setIfInBounds 3 v3).setIfInBounds 4 v4).setIfInBounds 5 v5) T (0, 0) h5
 refine ⟨h6.trans (by simp), ?_⟩
 exact (((grownBy_setRow w g _).trans (grownBy_setRow _ g _)).trans ((grownBy_setRow _ g _).trans (grownBy_setRow _ g _))).trans ((grownBy_setRow _ g _).trans (grownBy_setRow _ g _))
end Go.Proofs.YtekmadgacepdfaaGreat.K
