/- Rows of numbers of one's own; sorted by the library. -/
import Derived.Test.YtekmadgacepdfaaGreatKA0
import Derived.Test.YtekmadgacepdfaaGreatKP
import Derived.Test.YtekmadgacepdfaaGreatMR
import Derived.Test.YtekmadgacepdfaaGreatNK
import Derived.Test.YtekmadgacepdfaaGreatLayFl
import Derived.Shelf.SlSortCmp.NoneTotal
import Derived.OneCell
namespace Go.Proofs.YtekmadgacepdfaaGreat.K
set_option linter.unusedVariables false
open Go.RowKit Fl Go.Sort

section
variable {α : Type} [Inhabited α] {enc : α → Value}
theorem holds_of_row1 {w : World} {g : Nat} {cur : Array Value} {e : TypeId} {l : List α} (hb : w.heap[g]? = some (.cells cur e (0, 0))) (ht : cur.toList.take l.length = l.map enc) : Holds enc w g 0 l.toArray := by
 intro j hj
 have hj' : j < l.length := by simpa using hj
 refine ⟨?_, by simp [World.frozen?, hb]⟩
 have h1 : (cur.toList.take l.length)[j]? = (l.map enc)[j]? := by rw [ht]
 rw [List.getElem?_take_of_lt hj'] at h1
 simp only [World.cell?, hb, Nat.zero_add]
 simp only [Option.isSome_none, Bool.false_eq_true, if_false]
 rw [← Array.getElem?_toList, h1]
 simp [hj']
theorem heap_sorted1 {w : World} {g n : Nat} {os : Array Obj} {cur : Array Value} {e : TypeId} {fr : Nat × Nat} (d : Array α) (hb : w.heap[g]? = some (.cells cur e fr)) :
  (sortWorld enc w g 0 n d os).heap[g]? = some (.cells (putCells enc 0 d cur) e fr) := by
 have hg : g < w.heap.size := (Array.getElem?_eq_some_iff.1 hb).1
 unfold sortWorld
 rw [heap_grow_old _ _ (by simpa using hg)]
 simp [putRow, mapBlock, Sort.ahead, Array.getElem?_modify, hb, onCells]
theorem grownBy_sorted1 {w : World} {g n : Nat} {os : Array Obj} (d : Array α) : w.grownBy (sortWorld enc w g 0 n d os) (some g) := by
 refine ⟨rfl, rfl, rfl, by simp [sortWorld], fun k hk hne => ?_⟩
 unfold sortWorld
 rw [heap_grow_old _ _ (by simpa using hk)]
 have : g ≠ k := fun e => hne (by rw [e])
 simp [putRow, mapBlock, Sort.ahead, Array.getElem?_modify, this]
theorem take_putCells1 (cur : Array Value) (ts : List α) (h : ts.length ≤ cur.size) : (putCells enc 0 ts.toArray cur).toList.take ts.length = ts.map enc := by
 apply List.ext_getElem?
 intro j
 by_cases hj : j < ts.length
 ·rw [List.getElem?_take_of_lt hj, Array.getElem?_toList]
  simp [putCells, hj, show j < cur.size by omega]
 ·rw [List.getElem?_take_eq_none (by omega), List.getElem?_eq_none (by simp; omega)]
end

theorem cmpF_lays (blk off size : Nat) (w : World) : CmpLays1 Tryz.prog 113 #[] (fun x : CB => .float .f64 x.b) cfC blk off size w := fun m os dk _ x y =>
 (floCmp_any x.b y.b x.lt y.lt _).mono fun e w' ⟨h1, h2⟩ => ⟨h1, 0, #[], by rw [← h2, grow_empty]; rfl⟩
theorem cmpF_enters : ∀ args w, (callFunc 113 args).run Tryz.prog w = .ok (.enter 113 args) w := enters_of Tryz.func113 (by kernel_rfl) rfl
theorem sort_floats (w : World) (base : Nat) (a : Option Addr) (c n : Nat) (l : List CB) (hn : l.length = n) (hown : w.ownsRow base 64 1 (.slice a n c) n (fCells (bits l))) (hl : n < 4611686018427387904) :
  Calls Tryz.prog 112 #[.slice a n c, .func (.func 113) #[] #[]] w fun e w' => e = .returned (.tuple #[]) ∧
   w'.ownsRow base 64 1 (.slice a n c) n (fCells (bits (sortC l))) ∧ w.grownBy w' (Value.slice a n c).ownBlock := by
 subst hn
 by_cases h0 : l.length = 0
 ·have hl0 : l = [] := List.eq_nil_of_length_eq_zero h0
  subst hl0
  refine (AnyF.slices_SortFunc_none (P := Tryz.prog) (ρ := sortFl_ren) { sortFl with } a c (.func (.func 113) #[] #[]) w).mono fun e w' ⟨h1, h2⟩ => ?_
  subst h2
  exact ⟨h1, by rw [show sortC [] = [] from List.eq_nil_of_length_eq_zero (sortC_len [])]; exact hown, ⟨rfl, rfl, rfl, Nat.le_refl _, fun _ _ _ => rfl⟩⟩
 ·rcases hown.2 with ⟨h1, h2⟩ | ⟨g, cap, cur, h1, hbase, hb, hnc, hcm, hcs, htake⟩
  ·omega
  ·cases h1
   rw [fCells_bits, Nat.mul_one] at htake
   have h := Any.slices_SortFunc_total sortFl (fun x : CB => Value.float .f64 x.b) (fun x => rfl) cfC cfC_swo 113 #[] g 0 c l.toArray w cmpF_enters (cmpF_lays g 0 _ w) (holds_of_row1 hb htake) (Array.getElem?_eq_some_iff.1 hb).1 (by simpa using hl) cfC_total
   rw [show l.toArray.size = l.length from List.size_toArray] at h
   refine h.mono fun e w' ⟨h1, n, os, h2⟩ => ?_
   subst h2
   refine ⟨h1, ⟨by rw [fCells_len, bits_len, sortC_len, Nat.mul_one], .inr ⟨g, c, _, rfl, hbase, heap_sorted1 _ hb, hnc, hcm, by simp [putCells, hcs], ?_⟩⟩, grownBy_sorted1 _⟩
   rw [fCells_bits, Nat.mul_one, ← sortC_len l]
   exact take_putCells1 cur (sortC l) (by rw [sortC_len, hcs]; omega)
end Go.Proofs.YtekmadgacepdfaaGreat.K
