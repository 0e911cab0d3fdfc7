/- The table of layer 10 in memory; New, place, At, Len, Clear. -/
import Derived.Test.YtnlaepogkepnhaaQB
namespace Go.Proofs.Ytnlaepogkepnhaa.Q
open Go.RowKit Fl

def itCells (its : List ItV) : List Value := its.flatMap ItV.enc
theorem itCells_len (its : List ItV) : (itCells its).length = its.length * 5 := flat_len ItV.enc_len its
theorem itCells_one (its : List ItV) : ∀ u ∈ itCells its, u.oneCell' = true := by
  intro u hu
  obtain ⟨x, _, hx⟩ := List.mem_flatMap.1 hu
  exact ItV.enc_one x u hx

/-- A table lies in block T; its slice is v. -/
structure TabAt (w : World) (B T : Nat) (v : Value) (most : Int) (its : List ItV) : Prop where
  tab : w.heap[T]? = some (.cells #[.int .i64 most, v] 109 (0, 0))
  own : w.ownsRow B 70 5 v its.length (itCells its)
  apart : v.ownBlock ≠ some T
  low : B ≤ T
  len : its.length ≤ 64

theorem grown_of_below {w w' : World} (h : Below w.heap.size w w') : w.grownBy w' none := ⟨h.os, h.tape, h.output, h.size, fun k hk _ => h.block k hk⟩
theorem TabAt.below {w w' : World} {B T : Nat} {v : Value} {most : Int} {its : List ItV} (h : TabAt w B T v most its) (hb : Below w.heap.size w w') : TabAt w' B T v most its :=
  ⟨(hb.block T (Array.getElem?_eq_some_iff.1 h.tab).1).trans h.tab, h.own.kept (grown_of_below hb) (by cases v.ownBlock <;> simp), h.apart, h.low, h.len⟩
theorem TabAt.lt {w : World} {B T : Nat} {v : Value} {most : Int} {its : List ItV} (h : TabAt w B T v most its) : T < w.heap.size := (Array.getElem?_eq_some_iff.1 h.tab).1

/-- One table has turned, T; all else that lay there has not. -/
structure Upd (w w' : World) (T : Nat) (v v' : Value) : Prop where
  os : w'.os = w.os
  tape : w'.tape = w.tape
  output : w'.output = w.output
  size : w.heap.size ≤ w'.heap.size
  block : ∀ k, k < w.heap.size → k ≠ T → some k ≠ v.ownBlock → w'.heap[k]? = w.heap[k]?
  own : v'.ownBlock = v.ownBlock ∨ v'.ownBlock = none ∨ ∃ g, v'.ownBlock = some g ∧ w.heap.size ≤ g

/-- The keys rise. -/
def rises (its : List ItV) : Prop := its.Pairwise fun x y => codeR x.k.rg < codeR y.k.rg

theorem rises_mono {its : List ItV} (h : rises its) (kb : Rg) : ∀ s t : Nat, s ≤ t → ∀ x y, its[s]? = some x → its[t]? = some y → codeR y.k.rg < codeR kb → codeR x.k.rg < codeR kb := by
  intro s t hst x y hx hy hlt
  rcases Nat.lt_or_ge s t with h1 | h1
  · have h2 := (List.pairwise_iff_getElem.1 h) s t (List.getElem?_eq_some_iff.1 hx).1 (List.getElem?_eq_some_iff.1 hy).1 h1
    rw [(List.getElem?_eq_some_iff.1 hx).2, (List.getElem?_eq_some_iff.1 hy).2] at h2
    omega
  · obtain rfl : s = t := by omega
    rw [hx] at hy; cases hy; exact hlt

theorem it_some {its : List ItV} {k : Nat} (h : k < its.length) : its[k]? = some (its[k]?.getD default) := by rw [List.getElem?_eq_getElem h]; rfl
theorem own_cells {w : World} {B g n c : Nat} {its : List ItV} (h : w.ownsRow B 70 5 (.slice (some ⟨g, 0, none⟩) n c) n (itCells its)) (hn : its.length = n) :
    ∀ i, i < its.length → w.cell? ⟨g, i * 5, none⟩ = some (.float .f64 (its[i]?.getD default).k.lo.bits) ∧ w.cell? ⟨g, i * 5 + 1, none⟩ = some (.float .f64 (its[i]?.getD default).k.hi.bits) ∧ w.cell? ⟨g, i * 5 + 2, none⟩ = some (.bool false) ∧ w.cell? ⟨g, i * 5 + 3, none⟩ = some (.bool false) ∧ w.cell? ⟨g, i * 5 + 4, none⟩ = some (.int .i64 (its[i]?.getD default).n) := by
  intro i hi
  have e := it_some hi
  have h0 := h.cellAt (i * 5) (by omega)
  have h1 := h.cellAt (i * 5 + 1) (by omega)
  have h2 := h.cellAt (i * 5 + 2) (by omega)
  have h3 := h.cellAt (i * 5 + 3) (by omega)
  have h4 := h.cellAt (i * 5 + 4) (by omega)
  exact ⟨h0.trans ((flat_get ItV.enc_len e (j := 0) (by omega)).trans rfl), h1.trans ((flat_get ItV.enc_len e (j := 1) (by omega)).trans rfl), h2.trans ((flat_get ItV.enc_len e (j := 2) (by omega)).trans rfl), h3.trans ((flat_get ItV.enc_len e (j := 3) (by omega)).trans rfl), h4.trans ((flat_get ItV.enc_len e (j := 4) (by omega)).trans rfl)⟩

theorem vSearch_nil (kb : Rg) (w : World) :
    Calls Try.prog 62 #[.slice none 0 0, .agg #[.float .f64 (slo kb), .float .f64 (shi kb), .bool (sop kb), .bool (sop kb)], .func (.func 63) #[] #[]] w (Ret (.tuple #[.int .i64 0, .bool false]) w) := by
  go_enter Try.func62, Try.ntmps62
  go_wp2
  go_loopw [9, 10] (fun i j wr => i = .int .i64 0 ∧ j = .int .i64 0 ∧ Below w.heap.size w wr) (fun _ _ _ => 0)
  case atStart => exact ⟨rfl, rfl, by (repeat (first | with_reducible exact Below.refl _ _ | ((with_reducible refine Below.alloc1 ?_ ?_ _); (· first | omega | (simp; done) | (simp; omega))) | (with_reducible refine Below.drew ?_) | (with_reducible refine below_drewN' ?_ _) | ((with_reducible refine Below.setCell1 ?_ ?_ _); (· first | omega | (simp; done) | (simp; omega))) | ((with_reducible refine Below.after (by assumption) ?_ ?_); (· first | omega | (simp; done) | (simp; omega)))))⟩
  case round =>
    obtain ⟨rfl, rfl, hbw⟩ := hrel
    have hz := hbw.size
    go_wp2_with fail
    (refine wp_region_ext (by kernel_rfl) (by kernel_rfl) ?_; (repeat (go_big_quiet_step (first | fail))); refine wpQuiet_nil ?_; rintro w1 ⟨x1, hx1⟩; have hb1 := x1.b; rw [← hx1] at hb1; clear hx1 x1; obtain ⟨hc1, hf1⟩ := bcell hb1; (try simp only [World.heap_drewN, World.cell?_drewN, World.frozen?_drewN] at hc1 hf1); have hz1 := hb1.size; (try simp at hz1); (try have hy1_0 : w.heap.size < w1.heap.size := by omega); (try have hy1_1 : w.heap.size + 1 < w1.heap.size := by omega); (try have hy1_2 : w.heap.size + 2 < w1.heap.size := by omega); (try have hy1_3 : w.heap.size + 3 < w1.heap.size := by omega); (try have hx1_0 : w.heap.size ≤ w1.heap.size := by omega); (try have hx1_1 : w.heap.size + 1 ≤ w1.heap.size := by omega); (try have hx1_2 : w.heap.size + 2 ≤ w1.heap.size := by omega))
    go_wp2_with fail
    go_ret2
    exact ⟨rfl, by (repeat (first | with_reducible exact Below.refl _ _ | ((with_reducible refine Below.alloc1 ?_ ?_ _); (· first | omega | (simp; done) | (simp; omega))) | (with_reducible refine Below.drew ?_) | (with_reducible refine below_drewN' ?_ _) | ((with_reducible refine Below.setCell1 ?_ ?_ _); (· first | omega | (simp; done) | (simp; omega))) | ((with_reducible refine Below.after (by assumption) ?_ ?_); (· first | omega | (simp; done) | (simp; omega)))))⟩

theorem vSearch_any {w : World} {B : Nat} {v : Value} {its : List ItV} (kb : Rg) (hk : okR kb) (hown : w.ownsRow B 70 5 v its.length (itCells its)) (hl : its.length ≤ 64) (hr : rises its) :
    Calls Try.prog 62 #[v, .agg #[.float .f64 (slo kb), .float .f64 (shi kb), .bool (sop kb), .bool (sop kb)], .func (.func 63) #[] #[]] w (Ret (.tuple #[.int .i64 (plcI its kb), .bool (plcB its kb)]) w) := by
  have hown' := hown
  rcases hown.2 with ⟨rfl, h0⟩ | ⟨g, cap, cur, rfl, hbg, hg, hnc, hcm, hcs, htake⟩
  · have : its = [] := by
      have := itCells_len its
      rw [h0] at this; simp at this
      exact List.eq_nil_of_length_eq_zero (by omega)
    subst this
    exact vSearch_nil kb w
  · exact vSearch_row g cap its.length kb its w hk rfl (by omega) (Array.getElem?_eq_some_iff.1 hg).1 (own_cells hown' rfl) (rises_mono hr kb)


theorem own_slice {w : World} {B : Nat} {v : Value} {its : List ItV} (h : w.ownsRow B 70 5 v its.length (itCells its)) : ∃ va vc, v = .slice va its.length vc := by
  rcases h.2 with ⟨rfl, h0⟩ | ⟨g, cap, cur, rfl, _⟩
  · have := itCells_len its
    rw [h0] at this; simp at this
    exact ⟨none, 0, by rw [show its.length = 0 by omega]⟩
  · exact ⟨_, _, rfl⟩
theorem own_at {w : World} {B c n : Nat} {va : Option Addr} {its : List ItV} (h : w.ownsRow B 70 5 (.slice va n c) n (itCells its)) (hn : its.length = n) (h0 : 0 < n) :
    ∃ g, va = some ⟨g, 0, none⟩ ∧ g < w.heap.size ∧ ∀ i, i < n → w.cell? ⟨g, i * 5, none⟩ = some (.float .f64 (its[i]?.getD default).k.lo.bits) ∧ w.cell? ⟨g, i * 5 + 1, none⟩ = some (.float .f64 (its[i]?.getD default).k.hi.bits) ∧ w.cell? ⟨g, i * 5 + 2, none⟩ = some (.bool false) ∧ w.cell? ⟨g, i * 5 + 3, none⟩ = some (.bool false) ∧ w.cell? ⟨g, i * 5 + 4, none⟩ = some (.int .i64 (its[i]?.getD default).n) := by
  rcases h.2 with ⟨hv, h1⟩ | ⟨g, cap, cur, hv, hbg, hg, hnc, hcm, hcs, htake⟩
  · omega
  · obtain ⟨rfl, rfl⟩ : va = some ⟨g, 0, none⟩ ∧ c = cap := by cases hv; exact ⟨rfl, rfl⟩
    subst hn
    exact ⟨g, rfl, (Array.getElem?_eq_some_iff.1 hg).1, own_cells h rfl⟩
end Go.Proofs.Ytnlaepogkepnhaa.Q
