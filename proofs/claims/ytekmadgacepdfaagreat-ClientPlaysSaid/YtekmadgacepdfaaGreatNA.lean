/- Rows of forms: an own row, one more by append. -/
import Derived.Test.YtekmadgacepdfaaGreatNP
import Derived.Test.YtekmadgacepdfaaGreatVR
import Derived.OneCell
namespace Go.Proofs.YtekmadgacepdfaaGreat.N
set_option linter.unusedVariables false
open Go.RowKit Fl

def enc (k : RK) : List Value := [.float .f64 k.lo.bits, .float .f64 k.hi.bits, .bool false, .bool false]
theorem enc_len (k : RK) : (enc k).length = 4 := rfl
theorem enc_one (k : RK) : ∀ u ∈ enc k, u.oneCell' = true := by intro u hu; simp [enc] at hu; rcases hu with rfl | rfl | rfl <;> rfl
def sCells (l : List RK) : List Value := l.flatMap enc
theorem sCells_len (l : List RK) : (sCells l).length = l.length * 4 := flat_len enc_len l
theorem spanInfo : (Tryz.prog.info? 121).map (fun i => (i.zero, i.size, i.bytes)) = some (some (.agg #[.float .f64 0, .float .f64 0, .bool false, .bool false]), 4, 24) := by kernel_rfl
theorem cell_row {w : World} {g : Nat} {cur : Array Value} {t : TypeId} (h : w.heap[g]? = some (.cells cur t (0, 0))) (j : Nat) : w.cell? ⟨g, j, none⟩ = cur[j]? := cell_of_row w g j cur t (0, 0) h
theorem addr0 (g j : Nat) : (⟨g, 0, none⟩ : Addr).add j = ⟨g, j, none⟩ := by rw [Addr.add_lit, Nat.zero_add]
theorem grown_of_below {w w' : World} (h : Below w.heap.size w w') : w.grownBy w' none := ⟨h.os, h.tape, h.output, h.size, fun k hk _ => h.block k hk⟩
theorem own_le {w : World} {base base' size n : Nat} {e : TypeId} {v : Value} {xs : List Value} (h : w.ownsRow base e size v n xs) (hb : base' ≤ base) : w.ownsRow base' e size v n xs :=
 ⟨h.1, h.2.imp id fun ⟨g, cap, cur, h1, h2, h3⟩ => ⟨g, cap, cur, h1, Nat.le_trans hb h2, h3⟩⟩
theorem own_slice {w : World} {B : Nat} {v : Value} {l : List RK} (h : w.ownsRow B 121 4 v l.length (sCells l)) : ∃ va vc, v = .slice va l.length vc := by
 rcases h.2 with ⟨rfl, h0⟩ | ⟨g, cap, cur, rfl, _⟩
 ·have := sCells_len l
  rw [h0] at this; simp at this
  exact ⟨none, 0, by rw [show l.length = 0 by omega]⟩
 ·exact ⟨_, _, rfl⟩
theorem app1 {W0 w : World} {base : Nat} {a : Option Addr} {c : Nat} {l : List RK} (x : RK) (hb : Below base W0 w) (hown : w.ownsRow base 121 4 (.slice a l.length c) l.length (sCells l)) (hbase : base ≤ w.heap.size) (hl : l.length ≤ 5864062014804) :
  ∃ a' c' w', (∀ ty, (Builtin.append_ #[33, 33] ty #[.slice a l.length c, .slice (some ⟨w.heap.size, 0, none⟩) 1 1]).run Tryz.prog (w.alloc (.cells #[.float .f64 x.lo.bits, .float .f64 x.hi.bits, .bool false, .bool false] 121)) = .ok (.slice a' (l.length + 1) c') w') ∧
   w'.ownsRow base 121 4 (.slice a' (l.length + 1) c') (l.length + 1) (sCells (l ++ [x])) ∧ Below base W0 w' := by
 obtain ⟨i0, hi0, hz0, hzs, hzb⟩ := info_parts spanInfo
 have hb1 : Below w.heap.size w (w.alloc (.cells #[.float .f64 x.lo.bits, .float .f64 x.hi.bits, .bool false, .bool false] 121)) := by (repeat (first | with_reducible exact Below.refl _ _ | ((with_reducible refine Below.alloc1 ?_ ?_ _); (· first | omega | (simp; done) | (simp; omega))) | (with_reducible refine Below.drew ?_) | (with_reducible refine below_drewN' ?_ _) | ((with_reducible refine Below.setCell1 ?_ ?_ _); (· first | omega | (simp; done) | (simp; omega))) | ((with_reducible refine Below.after (by assumption) ?_ ?_); (· first | omega | (simp; done) | (simp; omega)))))
 have hown1 := hown.kept (grown_of_below hb1) (by cases (Value.slice a l.length c).ownBlock <;> simp)
 obtain ⟨v', w', hr, h2, h3⟩ := run_append_own2 (P := Tryz.prog) (w.alloc (.cells #[.float .f64 x.lo.bits, .float .f64 x.hi.bits, .bool false, .bool false] 121)) base 33 121 i0 _ 4 24 Tryz.underlying33 hi0 hz0 hzs hzb rfl (by omega) _ _ _ hown1 ⟨w.heap.size, 0, none⟩ 1 1 (enc x) rfl
  (fun j u hj => by
   have hrow : (w.alloc (.cells #[.float .f64 x.lo.bits, .float .f64 x.hi.bits, .bool false, .bool false] 121)).heap[w.heap.size]? = some (.cells #[.float .f64 x.lo.bits, .float .f64 x.hi.bits, .bool false, .bool false] 121 (0, 0)) := heap_alloc_new w _
   rw [addr0, cell_row hrow]
   rw [← hj]; simp [enc]) (enc_one x) (by omega) (by unfold maxLen; omega) (by omega) (by simp; omega)
 have hc : sCells l ++ enc x = sCells (l ++ [x]) := by simp [sCells]
 rw [hc] at h2
 have hlen : (l ++ [x]).length = l.length + 1 := by simp
 rw [← hlen] at h2
 obtain ⟨a', c', rfl⟩ := own_slice h2
 rw [hlen] at h2 hr
 exact ⟨a', c', w', hr, h2, ((hb.trans (hb1.mono hbase)).grown h3.1 (by simp; omega) (fun k hk => (hown.lt k hk).1))⟩
theorem own_set4 {w : World} {base g cv p : Nat} {l : List RK} {y : RK} (z : RK) (hp : l.length = p) (h : w.ownsRow base 121 4 (.slice (some ⟨g, 0, none⟩) (p + 1) cv) (p + 1) (sCells (l ++ [y]))) :
  ((((w.setCell ⟨g, p * 4, none⟩ (.float .f64 z.lo.bits)).setCell ⟨g, p * 4 + 1, none⟩ (.float .f64 z.hi.bits)).setCell ⟨g, p * 4 + 2, none⟩ (.bool false)).setCell ⟨g, p * 4 + 3, none⟩ (.bool false)).ownsRow base 121 4 (.slice (some ⟨g, 0, none⟩) (p + 1) cv) (p + 1) (sCells (l ++ [z])) ∧
  w.grownBy ((((w.setCell ⟨g, p * 4, none⟩ (.float .f64 z.lo.bits)).setCell ⟨g, p * 4 + 1, none⟩ (.float .f64 z.hi.bits)).setCell ⟨g, p * 4 + 2, none⟩ (.bool false)).setCell ⟨g, p * 4 + 3, none⟩ (.bool false)) (some g) := by
 rcases h.2 with ⟨h1, _⟩ | ⟨g', cap, cur, h1, hbase, hb, hnc, hcm, hcs, htake⟩
 ·cases h1
 ·cases h1
  rw [setCell_eq_setRow w g (p * 4) _ _ _ _ hb]
  have hb1 := setRow_heap w g cur (cur.setIfInBounds (p * 4) (.float .f64 z.lo.bits)) 121 (0, 0) hb
  rw [setCell_eq_setRow _ g (p * 4 + 1) _ _ _ _ hb1]
  have hb2 := setRow_heap _ g _ ((cur.setIfInBounds (p * 4) (.float .f64 z.lo.bits)).setIfInBounds (p * 4 + 1) (.float .f64 z.hi.bits)) 121 (0, 0) hb1
  rw [setCell_eq_setRow _ g (p * 4 + 2) _ _ _ _ hb2]
  have hb3 := setRow_heap _ g _ (((cur.setIfInBounds (p * 4) (.float .f64 z.lo.bits)).setIfInBounds (p * 4 + 1) (.float .f64 z.hi.bits)).setIfInBounds (p * 4 + 2) (.bool false)) 121 (0, 0) hb2
  rw [setCell_eq_setRow _ g (p * 4 + 3) _ _ _ _ hb3]
  have hb4 := setRow_heap _ g _ ((((cur.setIfInBounds (p * 4) (.float .f64 z.lo.bits)).setIfInBounds (p * 4 + 1) (.float .f64 z.hi.bits)).setIfInBounds (p * 4 + 2) (.bool false)).setIfInBounds (p * 4 + 3) (.bool false)) 121 (0, 0) hb3
  refine ⟨⟨?_, .inr ⟨g, cv, _, rfl, hbase, hb4, hnc, hcm, by simpa using hcs, ?_⟩⟩, ((grownBy_setRow w g _).trans (grownBy_setRow _ g _)).trans ((grownBy_setRow _ g _).trans (grownBy_setRow _ g _))⟩
  ·rw [sCells_len, List.length_append, hp]; rfl
  ·have hl0 : (sCells l).length = p * 4 := by rw [sCells_len, hp]
   have hl1 : (sCells (l ++ [y])).length = (p + 1) * 4 := by rw [sCells_len, List.length_append, hp]; rfl
   have e0 : sCells (l ++ [y]) = sCells l ++ enc y := by simp [sCells]
   have e1 : sCells (l ++ [z]) = sCells l ++ enc z := by simp [sCells]
   rw [e1]
   rw [e0] at htake
   have hsz : (p + 1) * 4 ≤ cur.size := by rw [hcs]; exact Nat.mul_le_mul_right _ hnc
   apply List.ext_getElem?
   intro j
   by_cases hj : j < (p + 1) * 4
   ·have h3 : (cur.toList.take ((p + 1) * 4))[j]? = (sCells l ++ enc y)[j]? := by rw [htake]
    rw [List.getElem?_take_of_lt hj] at h3
    rw [List.getElem?_take_of_lt hj]
    simp only [Array.toList_setIfInBounds, List.getElem?_set, List.length_set, Array.length_toList]
    by_cases hj2 : j < p * 4
    ·rw [List.getElem?_append_left (by omega)] at h3 ⊢
     rw [if_neg (by omega), if_neg (by omega), if_neg (by omega), if_neg (by omega)]
     exact h3
    ·rw [List.getElem?_append_right (by omega), hl0]
     have hc : j = p * 4 ∨ j = p * 4 + 1 ∨ j = p * 4 + 2 ∨ j = p * 4 + 3 := by omega
     rcases hc with rfl | rfl | rfl | rfl
     ·rw [if_neg (by omega), if_neg (by omega), if_neg (by omega), if_pos rfl, if_pos (by omega)]; simp [enc]
     ·rw [if_neg (by omega), if_neg (by omega), if_pos rfl, if_pos (by omega), show p * 4 + 1 - p * 4 = 1 by omega]; simp [enc]
     ·rw [if_neg (by omega), if_pos rfl, if_pos (by omega), show p * 4 + 2 - p * 4 = 2 by omega]; simp [enc]
     ·rw [if_pos rfl, if_pos (by omega), show p * 4 + 3 - p * 4 = 3 by omega]; simp [enc]
   ·have hlz : (enc z).length = 4 := rfl
    rw [List.getElem?_take_eq_none (by omega), List.getElem?_eq_none (by rw [List.length_append, hl0, hlz]; omega)]
end Go.Proofs.YtekmadgacepdfaaGreat.N
