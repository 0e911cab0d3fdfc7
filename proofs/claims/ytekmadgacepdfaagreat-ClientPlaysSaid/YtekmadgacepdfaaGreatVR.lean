/- Rows of elements of K cells: copying into them. Over no program. -/
import Derived.Laws.CopyRow
import Derived.Laws.CopyOwn
import Derived.Laws.AppendOwn
import Derived.Laws.OwnMore
import Derived.Laws.Append
import Derived.Laws.IdiomCopy
import Derived.Lib.AppendZerosOnto
import Derived.Shelf.Spec.SlicesInsert
import Derived.WalkKit
namespace Go.Proofs.YtekmadgacepdfaaGreat
set_option linter.unusedVariables false
open Go.RowKit

section
variable {P : Program}
def Grew (w w' : World) (v v' : Value) : Prop := w.grownBy w' v.ownBlock ∧ (v'.ownBlock = v.ownBlock ∨ v'.ownBlock = none ∨ ∃ g, v'.ownBlock = some g ∧ w.heap.size ≤ g)

theorem grownBy_setRow (w : World) (g : Nat) (cs : Array Value) : w.grownBy (w.setRow g cs) (some g) :=
 ⟨rfl, rfl, rfl, by simp, fun k _ hk => setRow_other w g k _ (fun e => hk (by simp [e]))⟩

theorem run_append_own2 (w : World) (base : Nat) (t e : TypeId) (i : TypeInfo) (z : Value) (size bytes : Nat) (ht : P.underlying t = some (.slice e)) (hi : P.info? e = some i) (hz : i.zero = some z)
  (hsize : i.size = size) (hby : i.bytes = bytes) (hzs : z.cells.size = size) (hsz : 0 < size)
  (v : Value) (n : Nat) (xs : List Value) (hown : w.ownsRow base e size v n xs)
  (a : Addr) (m c : Nat) (news : List Value) (hl : news.length = m * size) (hnews : ∀ j u, news[j]? = some u → w.cell? (a.add j) = some u) (h1 : ∀ u ∈ news, u.oneCell' = true)
  (hm0 : 0 < m) (h63 : n + m ≤ maxLen) (hbytes : (n + m) * bytes ≤ 140737488355328) (hbase : base ≤ w.heap.size) :
  ∃ v' w', (∀ ty, (Builtin.append_ #[t, t] ty #[v, .slice (some a) m c]).run P w = .ok v' w') ∧ w'.ownsRow base e size v' (n + m) (xs ++ news) ∧ Grew w w' v v' := by
 subst hsize
 subst hby
 have hsmall : n + m ≤ 9223372036854775807 := by simp only [maxLen] at h63; omega
 have hlen : (xs ++ news).length = (n + m) * i.size := by rw [List.length_append, hown.1, hl, Nat.add_mul]
 have grown : ∀ (old : Nat), old < n + m → ∀ (row : Option Nat),
   (w.drew.alloc (.cells (xs.toArray ++ news.toArray ++ Builtin.zeroCells z.cells (grownCap w (n + m) old e - (n + m))) e)).ownsRow base e i.size
    (.slice (some ⟨w.heap.size, 0, none⟩) (n + m) (grownCap w (n + m) old e)) (n + m) (xs ++ news) ∧
   w.grownBy (w.drew.alloc (.cells (xs.toArray ++ news.toArray ++ Builtin.zeroCells z.cells (grownCap w (n + m) old e - (n + m))) e)) row := by
  intro old ho row
  have hge := grownCap_ge w (n + m) old e
  have hcm : grownCap w (n + m) old e ≤ maxLen := grownCap_le_maxLen w (n + m) old e h63
  refine ⟨⟨hlen, .inr ⟨w.heap.size, _, _, rfl, hbase, heap_alloc_new w.drew _, hge, hcm, ?_, ?_⟩⟩, ⟨rfl, rfl, rfl, by simp, (World.grownBy_alloc w.drew _ row).block⟩⟩
  ·simp only [Array.size_append, List.size_toArray, size_zeroCells, hzs, hown.1, hl, ← Nat.add_mul]
   congr 1
   omega
  ·simp only [Array.toList_append, List.append_assoc]
   rw [← List.append_assoc, ← hlen]
   exact List.take_left
 rcases hown.2 with ⟨rfl, rfl⟩ | ⟨g, cap, cur, rfl, hbg, hg, hnc, hcm, hcs, htake⟩
 ·have hx : xs = [] := List.eq_nil_of_length_eq_zero (by simpa using hown.1)
  subst hx
  have hr := fun ty => run_append_nil (P := P) w t ty e i z ht hi hz a m c news hl hnews (by omega) (by omega) (by have hb := hbytes; simp only [Nat.zero_add] at hb; omega)
  have hgr := grown 0 (by omega) (Value.ownBlock (.slice none 0 0))
  simp only [Nat.zero_add, List.nil_append, Array.empty_append] at hgr ⊢
  exact ⟨_, _, hr, hgr.1, hgr.2, .inr (.inr ⟨w.heap.size, rfl, Nat.le_refl _⟩)⟩
 ·by_cases hroom : n + m ≤ cap
  ·have hfit : n * i.size + news.length ≤ cur.size := by rw [hl, hcs, ← Nat.add_mul]; exact Nat.mul_le_mul_right _ hroom
   have hr := fun ty => run_append_room (P := P) w t ty e i ht hi g n cap cur hg a m c news hl hnews h1 hroom hfit
   refine ⟨_, _, hr, ⟨hlen, .inr ⟨g, cap, _, rfl, hbg, setRow_heap w g cur _ e _ hg, hroom, hcm, ?_, ?_⟩⟩, grownBy_setRow _ _ _, .inl rfl⟩
   ·simp only [List.size_toArray, List.length_append, List.length_take, List.length_drop, Array.length_toList]
    omega
   ·rw [htake, ← hlen]
    exact List.take_left
  ·have holds : ∀ j u, xs[j]? = some u → w.cell? ((⟨g, 0, none⟩ : Addr).add j) = some u := hown.cells (g := g) rfl
   have hr := fun ty => run_append_grow (P := P) w t ty e i z ht hi hz ⟨g, 0, none⟩ n cap xs hown.1 holds a m c news hl hnews (by omega) (by omega) (growslice_fits (by omega) hbytes)
   have hgr := grown cap (by omega) (Value.ownBlock (.slice (some ⟨g, 0, none⟩) n cap))
   exact ⟨_, _, hr, hgr.1, hgr.2, .inr (.inr ⟨w.heap.size, rfl, Nat.le_refl _⟩)⟩

section
variable {α : Type} {f : α → List Value} {K : Nat}
theorem flat_len (hf : ∀ x, (f x).length = K) : ∀ xs : List α, (xs.flatMap f).length = xs.length * K
 | [] => by simp
 | x :: xs => by rw [List.flatMap_cons, List.length_append, hf, flat_len hf xs, List.length_cons, Nat.add_mul]; omega
theorem flat_drop (hf : ∀ x, (f x).length = K) : ∀ (xs : List α) (i : Nat), (xs.flatMap f).drop (i * K) = (xs.drop i).flatMap f
 | [], i => by simp
 | x :: xs, 0 => by simp
 | x :: xs, i + 1 => by
  rw [List.flatMap_cons, List.drop_succ_cons, ← flat_drop hf xs i, show (i + 1) * K = (f x).length + i * K by rw [hf, Nat.add_mul]; omega, List.drop_append]
  rw [List.drop_of_length_le (Nat.le_add_right _ _), Nat.add_sub_cancel_left, List.nil_append]
theorem flat_get (hf : ∀ x, (f x).length = K) {xs : List α} {i : Nat} {x : α} (hi : xs[i]? = some x) {j : Nat} (hj : j < K) : (xs.flatMap f)[i * K + j]? = (f x)[j]? := by
 have h1 := flat_drop hf xs i
 have h2 : ((xs.flatMap f).drop (i * K))[j]? = (f x)[j]? := by
  rw [h1]
  have hlt := (List.getElem?_eq_some_iff.1 hi).1
  rw [List.drop_eq_getElem_cons hlt, List.flatMap_cons, List.getElem?_append_left (by rw [hf]; exact hj), (List.getElem?_eq_some_iff.1 hi).2]
 rw [← h2, List.getElem?_drop]
end
end

section
variable {P : Program}
theorem run_clear_row (w : World) (t e : TypeId) (z : Value) (K : Nat) (ht : P.underlying t = some (.slice e)) (hv : ∀ w, (zeroValue e).run P w = .ok z w) (hz : z.cells.size = K) (h1 : ∀ u ∈ z.cells.toList, u.oneCell' = true) (g o n c : Nat) (cur : Array Value) (ty' : TypeId)
  (hg : w.heap[g]? = some (.cells cur ty' (0, 0))) (hn : 0 < n) (hfit : o + n * K ≤ cur.size) (ty : TypeId) :
  (Builtin.clear_ #[t] ty #[.slice (some ⟨g, o, none⟩) n c]).run P w = .ok (.tuple #[]) (w.setRow g (cur.toList.take o ++ (Builtin.zeroCells z.cells n).toList ++ cur.toList.drop (o + n * K)).toArray) := by
 have hl : (Builtin.zeroCells z.cells n).toList.length = n * K := by rw [Array.length_toList, size_zeroCells, hz]
 have hst := run_storeCells_at P g o ty' (Builtin.zeroCells z.cells n).toList 0 cur w hg (by simpa [hl] using hfit) (fun u hu => by
  obtain ⟨j, hj, rfl⟩ : ∃ j, j < n * z.cells.size ∧ z.cells[j % z.cells.size]! = u := by
   simpa [Builtin.zeroCells] using hu
  by_cases hK : z.cells.size = 0
  ·simp [hK] at hj
  ·refine h1 _ ?_
   rw [getElem!_pos z.cells _ (Nat.mod_lt _ (by omega))]
   exact Array.mem_toList_iff.2 (Array.getElem_mem _))
 simp only [Nat.add_zero, hl] at hst
 obtain ⟨m, rfl⟩ : ∃ m, n = m + 1 := ⟨n - 1, by omega⟩
 simp [Builtin.clear_, run_underlying ht, hv, hst]
end
end Go.Proofs.YtekmadgacepdfaaGreat
