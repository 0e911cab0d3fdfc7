/- Scripts of layer 9: a row of calls; what Put after Put makes; what an answer is of. -/
import Derived.Test.YtnlaepogkepnhaaLVA
namespace Go.Proofs.Ytnlaepogkepnhaa
set_option linter.unusedVariables false
open Go.RowKit Fl

structure OpV where
  kind : Int
  key : Nat
  n : Int
instance : Inhabited OpV := ⟨⟨0, 0, 0⟩⟩

/-- A row of calls lies at a slice's address. -/
structure OAt (w : World) (a : Option Addr) (ops : List OpV) : Prop where
  row : ops = [] ∨ ∃ b o, a = some ⟨b, o, none⟩ ∧ b < w.heap.size ∧ ∀ i, i < ops.length → w.cell? ⟨b, o + i * 3, none⟩ = some (.int .i64 (ops[i]?.getD default).kind) ∧ w.cell? ⟨b, o + i * 3 + 1, none⟩ = some (.float .f64 (ops[i]?.getD default).key) ∧ w.cell? ⟨b, o + i * 3 + 2, none⟩ = some (.int .i64 (ops[i]?.getD default).n)
  lt : ∀ i, i < ops.length → (ops[i]?.getD default).key < 2 ^ 64
  len : ops.length ≤ maxLen
theorem op_some {ops : List OpV} {k : Nat} (h : k < ops.length) : ops[k]? = some (ops[k]?.getD default) := by rw [List.getElem?_eq_getElem h]; rfl

/-- Put after Put. -/
def putAll (its : List ItV) (most : Int) (ops : List OpV) : List ItV := ops.foldl (fun its o => (putI its most o.key o.n).2) its
theorem putAll_snoc (its : List ItV) (most : Int) {ops : List OpV} {i : Nat} {o : OpV} (h : ops[i]? = some o) : putAll its most (ops.take (i + 1)) = (putI (putAll its most (ops.take i)) most o.key o.n).2 := by
  unfold putAll
  rw [List.take_add_one, h, List.foldl_append]
  rfl

/-! At. -/
theorem plc_of_mem {its : List ItV} (hr : rises its) {i : Nat} {x : ItV} (hx : its[i]? = some x) {kb : Nat} (hk : codeOf kb = codeOf x.k.bits) : plcI its kb = i ∧ plcB its kb = true := by
  obtain ⟨h1, h2⟩ := List.getElem?_eq_some_iff.1 hx
  have hp : plcI its kb = i := by
    unfold plcI
    rw [List.findIdx_eq h1]
    refine ⟨by rw [h2]; simp [hk], fun j hj => ?_⟩
    have h3 := (List.pairwise_iff_getElem.1 hr) j i (by omega) h1 hj
    rw [h2] at h3
    have := (kcode_lt its[j].k x.k).2 h3
    rw [hk, codeOf_key, codeOf_key]
    simpa using this
  refine ⟨hp, ?_⟩
  unfold plcB
  rw [hp, hx]
  simp [hk]
theorem atI_of {its : List ItV} (hr : rises its) {x : ItV} (hx : x ∈ its) {kb : Nat} (hk : codeOf kb = codeOf x.k.bits) : atI its kb = x.n := by
  obtain ⟨i, hi, rfl⟩ := List.getElem_of_mem hx
  obtain ⟨h1, h2⟩ := plc_of_mem hr (List.getElem?_eq_getElem hi) hk
  unfold atI
  rw [if_pos h2, h1, List.getElem?_eq_getElem hi]
  rfl
theorem atI_mem {its : List ItV} (hr : rises its) {x : ItV} (hx : x ∈ its) : atI its x.k.bits = x.n := atI_of hr hx rfl
theorem atI_not {its : List ItV} {kb : Nat} (h : ∀ x ∈ its, codeOf x.k.bits ≠ codeOf kb) : atI its kb = 0 := by
  unfold atI
  rw [if_neg]
  intro hq
  have hp := plcB_lt hq
  unfold plcB at hq
  rw [List.getElem?_eq_getElem hp] at hq
  exact h _ (List.getElem_mem hp) (by simpa using hq)
theorem rises_inj {its : List ItV} (hr : rises its) {x y : ItV} (hx : x ∈ its) (hy : y ∈ its) (h : codeOf x.k.bits = codeOf y.k.bits) : x = y := by
  obtain ⟨i, hi, rfl⟩ := List.getElem_of_mem hx
  obtain ⟨j, hj, rfl⟩ := List.getElem_of_mem hy
  have h1 := (plc_of_mem hr (List.getElem?_eq_getElem hi) (kb := its[i].k.bits) rfl).1
  have h2 := (plc_of_mem hr (List.getElem?_eq_getElem hj) (kb := its[i].k.bits) h).1
  have : i = j := by omega
  subst this; rfl
theorem atI_kept {its : List ItV} (hr : rises its) (m : Int) {x : ItV} (hx : x ∈ its) : atI (kept m its) x.k.bits = if m < x.n then x.n else 0 := by
  split
  · rename_i h
    refine atI_mem (kept_rises hr m) ?_
    unfold kept
    exact List.mem_filter.2 ⟨hx, by simp; exact h⟩
  · rename_i h
    refine atI_not fun y hy e => ?_
    unfold kept at hy
    obtain ⟨h1, h2⟩ := List.mem_filter.1 hy
    have := rises_inj hr h1 hx e
    subst this
    simp at h2; omega
theorem it_mem {its : List ItV} {i : Nat} {x : ItV} (h : its[i]? = some x) : x ∈ its := List.mem_of_getElem? h

/-! Rows that outlast a turn of the table. -/
theorem Upd.row {w w' : World} {T base k n : Nat} {e : TypeId} {v v' u : Value} {xs : List Value} (h : Upd w w' T v v') (hT : T < base) (hv : ∀ g, v.ownBlock = some g → g < base) (hr : w.ownsRow base e k u n xs) : w'.ownsRow base e k u n xs := by
  refine ⟨hr.1, ?_⟩
  rcases hr.2 with h1 | ⟨g, cap, cur, rfl, hbg, hg, h2⟩
  · exact .inl h1
  · refine .inr ⟨g, cap, cur, rfl, hbg, ?_, h2⟩
    rw [h.block g (Array.getElem?_eq_some_iff.1 hg).1 (by omega) (fun e => by have := hv g e.symm; omega)]
    exact hg
theorem own_at {w : World} {B c : Nat} {va : Option Addr} {its : List ItV} (h : w.ownsRow B 41 2 (.slice va its.length c) its.length (itCells its)) (h0 : 0 < its.length) :
    ∃ g, va = some ⟨g, 0, none⟩ ∧ g < w.heap.size ∧ ∀ i, i < its.length → w.cell? ⟨g, i * 2, none⟩ = some (.float .f64 (its[i]?.getD default).k.bits) ∧ w.cell? ⟨g, i * 2 + 1, none⟩ = some (.int .i64 (its[i]?.getD default).n) := by
  rcases h.2 with ⟨hv, h1⟩ | ⟨g, cap, cur, hv, hbg, hg, hnc, hcm, hcs, htake⟩
  · have := itCells_len its
    rw [h1] at this; simp at this; omega
  · obtain ⟨rfl, rfl⟩ : va = some ⟨g, 0, none⟩ ∧ c = cap := by cases hv; exact ⟨rfl, rfl⟩
    exact ⟨g, rfl, (Array.getElem?_eq_some_iff.1 hg).1, own_cells h rfl⟩
theorem tab_drop_row {w0 w1 w : World} {T : Nat} {most : Int} {its its' xs : List ItV} (h : Tab1 w0 w1 T most its) (hb : Below w1.heap.size w1 w) (m c : Int) (a : Option Addr) (n ca : Nat) (hrow : w.ownsRow w1.heap.size 41 2 (.slice a n ca) n (itCells xs)) (hp : Hid (kept m its = its')) (hc : Hid ((its.length : Int) - its'.length = c)) :
    Calls Try.prog 18 #[.pointer (some ⟨T, 0, none⟩), .int .i64 m] w fun e w' => e = .returned (.int .i64 c) ∧ Tab1 w0 w' T most its' ∧ w'.ownsRow w1.heap.size 41 2 (.slice a n ca) n (itCells xs) := by
  obtain ⟨v, hv1⟩ := h.tab
  have hv := hv1.below hb
  have h' := h.below hb
  have h1 := kept_rises h.up m
  have h2 := kept_length_le m its
  refine (tabDrop_any hv m).mono ?_
  rintro e w' ⟨v', rfl, h3, h4⟩
  rw [hp.out] at h1 h2 h3 ⊢
  rw [hc.out]
  exact ⟨rfl, ⟨⟨v', h3⟩, h4.b hv.low (fun g e => (hv.own.lt g e).1) h'.b, h1, by have := h.le; omega, h.m64⟩, h4.row hv1.lt (fun g e => (hv1.own.lt g e).2) hrow⟩
end Go.Proofs.Ytnlaepogkepnhaa
