/- Rows of elements of K cells, sorted by the library: between append's words and the sort's. Over no program. -/
import Derived.Test.YtekmadgacepdfaaGreatVR
import Derived.Shelf.GgSortFunc.InsertionK
import Derived.Sort.OwnSorted
namespace Go.Proofs.YtekmadgacepdfaaGreat
set_option linter.unusedVariables false
open Go.RowKit Go.Sort

section
variable {α : Type} [Inhabited α] {enc : α → List Value} {k : Nat}
theorem flatK_get (hk : ∀ x, (enc x).length = k) (l : List α) (t : Nat) (ht : t < l.length * k) : (flatK enc k l.toArray)[t]? = (l.flatMap enc)[t]? := by
 have h0 : 0 < k := Nat.pos_of_ne_zero (by rintro rfl; omega)
 have hi : t / k < l.length := by rw [Nat.div_lt_iff_lt_mul h0]; exact ht
 have hm : t % k < k := Nat.mod_lt _ h0
 have h1 := flat_get hk (List.getElem?_eq_getElem hi) hm
 rw [Nat.mul_comm, Nat.div_add_mod] at h1
 rw [h1]
 have hl : t < (flatK enc k l.toArray).size := by rw [size_flatK]; simpa using ht
 rw [Array.getElem?_eq_getElem hl, ← getElem!_pos _ t hl, get_flatK enc k l.toArray t (by simpa using ht)]
 have e1 : l.toArray[t / k]! = l[t / k] := by rw [getElem!_pos _ (t / k) (by simpa using hi)]; simp
 rw [e1, getElem!_pos _ (t % k) (by rw [hk]; exact hm), List.getElem?_eq_getElem (by rw [hk]; exact hm)]

theorem holdsK_of_row (hk : ∀ x, (enc x).length = k) {w : World} {g : Nat} {cur : Array Value} {e : TypeId} {l : List α} (hb : w.heap[g]? = some (.cells cur e (0, 0))) (ht : cur.toList.take (l.length * k) = l.flatMap enc) : HoldsK enc k w g 0 l.toArray := by
 intro j hj
 have hj' : j < l.length * k := by simpa using hj
 refine ⟨?_, by simp [World.frozen?, hb]⟩
 have h1 : (cur.toList.take (l.length * k))[j]? = (l.flatMap enc)[j]? := by rw [ht]
 rw [List.getElem?_take_of_lt hj', ← flatK_get hk l j hj'] at h1
 simp only [World.cell?, hb, Nat.zero_add]
 simp only [Option.isSome_none, Bool.false_eq_true, if_false]
 rw [← Array.getElem?_toList, h1, Array.getElem?_eq_getElem hj, ← getElem!_pos _ j hj]
 rfl

theorem heap_sortedK {w : World} {g n : Nat} {os : Array Obj} {cur : Array Value} {e : TypeId} {fr : Nat × Nat} (d : Array α) (hb : w.heap[g]? = some (.cells cur e fr)) :
  (sortWorldK enc k w g 0 n d os).heap[g]? = some (.cells (putCells id 0 (flatK enc k d) cur) e fr) := by
 have hg : g < w.heap.size := (Array.getElem?_eq_some_iff.1 hb).1
 unfold sortWorldK putRowK
 rw [heap_grow_old _ _ (by simpa using hg)]
 simp [putRow, mapBlock, Sort.ahead, Array.getElem?_modify, hb, onCells]

theorem grownBy_sortedK {w : World} {g n : Nat} {os : Array Obj} (d : Array α) : w.grownBy (sortWorldK enc k w g 0 n d os) (some g) := by
 refine ⟨rfl, rfl, rfl, by simp [sortWorldK, putRowK], fun j hj hne => ?_⟩
 unfold sortWorldK putRowK
 rw [heap_grow_old _ _ (by simpa using hj)]
 have : g ≠ j := fun e => hne (by rw [e])
 simp [putRow, mapBlock, Sort.ahead, Array.getElem?_modify, this]

theorem take_putCellsK (hk : ∀ x, (enc x).length = k) (cur : Array Value) (ts : List α) (h : ts.length * k ≤ cur.size) : (putCells id 0 (flatK enc k ts.toArray) cur).toList.take (ts.length * k) = ts.flatMap enc := by
 apply List.ext_getElem?
 intro j
 by_cases hj : j < ts.length * k
 ·rw [List.getElem?_take_of_lt hj, Array.getElem?_toList, ← flatK_get hk ts j hj]
  have hs : j < (flatK enc k ts.toArray).size := by simpa using hj
  rw [Array.getElem?_eq_getElem hs, ← getElem!_pos _ j hs]
  have hc : j < cur.size := by omega
  simp only [putCells, Array.getElem?_mapIdx, Array.getElem?_eq_getElem hc, Option.map_some]
  rw [if_pos ⟨Nat.zero_le _, by omega⟩]; rfl
 ·rw [List.getElem?_take_eq_none (by omega), List.getElem?_eq_none (by rw [flat_len hk]; omega)]

theorem ownsRow_sortedK (hk : ∀ x, (enc x).length = k) {w : World} {base g cap n : Nat} {e : TypeId} {os : Array Obj} {cur : Array Value} {ss ts : List α} (hl : ts.length = ss.length) (hbase : base ≤ g) (hb : w.heap[g]? = some (.cells cur e (0, 0)))
  (h1 : ss.length ≤ cap) (h2 : cap ≤ maxLen) (h3 : cur.size = cap * k) :
  (sortWorldK enc k w g 0 n ts.toArray os).ownsRow base e k (.slice (some ⟨g, 0, none⟩) ss.length cap) ss.length (ts.flatMap enc) :=
 ⟨by rw [flat_len hk, hl], .inr ⟨g, cap, _, rfl, hbase, heap_sortedK _ hb, h1, h2, by simp [putCells, h3], by rw [← hl]; exact take_putCellsK hk cur ts (by rw [h3]; exact Nat.mul_le_mul_right _ (by omega))⟩⟩

theorem grown_eq {w w' : World} (hos : w'.os = w.os) (ht : w'.tape = w.tape) (ho : w'.output = w.output) (hs : w.heap.size ≤ w'.heap.size) (hb : ∀ j, j < w.heap.size → w'.heap[j]? = w.heap[j]?) (hd : w.drawn ≤ w'.drawn) :
  ∃ q os', w' = grow (w.drewN q) os' := by
 refine ⟨w'.drawn - w.drawn, w'.heap.extract w.heap.size w'.heap.size, ?_⟩
 obtain ⟨h', t', d', o', u'⟩ := w'
 simp only at hos ht ho hs hb hd
 subst hos ht ho
 have hd' : w.drawn + (d' - w.drawn) = d' := by omega
 have hh : w.heap ++ h'.extract w.heap.size h'.size = h' := by
  apply Array.ext_getElem?
  intro j
  by_cases hj : j < w.heap.size
  ·rw [Array.getElem?_append_left hj, hb j hj]
  ·rw [Array.getElem?_append_right (by omega), Array.getElem?_extract]
   by_cases hj2 : j < h'.size
   ·rw [if_pos (by omega)]; congr 1; omega
   ·rw [if_neg (by omega), Array.getElem?_eq_none (by omega)]
 unfold grow World.drewN
 simp only
 rw [hd', hh]
end
end Go.Proofs.YtekmadgacepdfaaGreat
