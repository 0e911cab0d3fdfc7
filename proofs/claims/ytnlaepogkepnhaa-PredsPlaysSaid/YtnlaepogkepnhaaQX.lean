/- A table of layer 10 beside the document's: its row of items and its box. -/
import Derived.Test.YtnlaepogkepnhaaQM
namespace Go.Proofs.Ytnlaepogkepnhaa.Q
set_option linter.unusedVariables false
open Go.RowKit Fl

structure TabR (w0 w : World) (T X : Nat) (most : Int) (its ms : List ItV) (am : Option Addr) (cm : Nat) : Prop where
  tab : ∃ v, TabAt w w0.heap.size T v most its ∧ v.ownBlock ≠ some X ∧ ∀ g, v.ownBlock = some g → (Value.slice am ms.length cm).ownBlock ≠ some g
  row : w.ownsRow w0.heap.size 90 3 (.slice am ms.length cm) ms.length (mCells ms)
  rowT : (Value.slice am ms.length cm).ownBlock ≠ some T
  rowX : (Value.slice am ms.length cm).ownBlock ≠ some X
  box : w.heap[X]? = some (.cells #[.int .i64 most, .slice am ms.length cm] 79 (0, 0))
  ne : T ≠ X
  low : w0.heap.size ≤ X
  b : Below w0.heap.size w0 w
  up : rises its
  le : (its.length : Int) ≤ most
  m64 : most ≤ 64
  mlen : ms.length ≤ 64

section
variable {w0 w w' w1 : World} {T X : Nat} {most : Int} {its its' ms ms' : List ItV} {am a' : Option Addr} {cm c' : Nat}

theorem TabR.below (h : TabR w0 w T X most its ms am cm) (hb : Below w.heap.size w w') : TabR w0 w' T X most its ms am cm := by
  obtain ⟨v, hv, h1, h2⟩ := h.tab
  exact ⟨⟨v, hv.below hb, h1, h2⟩, h.row.kept (grown_of_below hb) (by cases (Value.slice am ms.length cm).ownBlock <;> simp), h.rowT, h.rowX, (hb.block X (Array.getElem?_eq_some_iff.1 h.box).1).trans h.box, h.ne, h.low, h.b.trans (hb.mono h.b.size), h.up, h.le, h.m64, h.mlen⟩
theorem TabR.one (h : TabR w0 w T X most its ms am cm) : Tab1 w0 w T most its := by
  obtain ⟨v, hv, _⟩ := h.tab
  exact ⟨⟨v, hv⟩, h.b, h.up, h.le, h.m64⟩
theorem TabR.mat (h : TabR w0 w T X most its ms am cm) : MAt w am ms := mat_own h.row h.mlen
theorem TabR.xlt (h : TabR w0 w T X most its ms am cm) : X < w.heap.size := (Array.getElem?_eq_some_iff.1 h.box).1
theorem TabR.c0 (h : TabR w0 w T X most its ms am cm) : w.cell? ⟨X, 0, none⟩ = some (.int .i64 most) := by rw [cell_row h.box]; rfl
theorem TabR.c1 (h : TabR w0 w T X most its ms am cm) : w.cell? ⟨X, 1, none⟩ = some (.slice am ms.length cm) := by rw [cell_row h.box]; rfl
theorem TabR.fz (h : TabR w0 w T X most its ms am cm) (j : Nat) : w.frozen? ⟨X, j, none⟩ = false := by simp [World.frozen?, h.box]

/-- The table turns; what was made since w1 is kept. -/
theorem tabr_upd {v v' : Value} (g : TabR w0 w1 T X most its ms am cm) (hb : Below w1.heap.size w1 w) (hv : TabAt w1 w0.heap.size T v most its) (h1 : v.ownBlock ≠ some X) (h2 : ∀ k, v.ownBlock = some k → (Value.slice am ms.length cm).ownBlock ≠ some k)
    (k4 : Upd w w' T v v') (k3 : TabAt w' w0.heap.size T v' most its') (hr : rises its') (hl : (its'.length : Int) ≤ most) :
    TabR w0 w' T X most its' ms am cm ∧ w.heap.size ≤ w'.heap.size ∧ ∀ p : Addr, w1.heap.size ≤ p.block → p.block < w.heap.size → w'.cell? p = w.cell? p := by
  have h := g.below hb
  have hvl := hv.lt
  have hvo := hv.own.lt
  have hx := h.xlt
  have hro := h.row.lt
  refine ⟨⟨⟨v', k3, ?_, ?_⟩, ⟨h.row.1, ?_⟩, h.rowT, h.rowX, ?_, h.ne, h.low, k4.b (by have := hv.low; exact this) (fun k e => (hvo k e).1) h.b, hr, hl, h.m64, h.mlen⟩, k4.size, fun p hp1 hp2 => ?_⟩
  · rcases k4.own with e | e | ⟨k, e, hk⟩
    · rw [e]; exact h1
    · rw [e]; simp
    · rw [e]; intro e'; cases e'; omega
  · intro k e'
    rcases k4.own with e | e | ⟨q, e, hk⟩
    · rw [e] at e'; exact h2 k e'
    · rw [e] at e'; cases e'
    · rw [e] at e'; cases e'
      intro e2; have := (hro _ e2).2; omega
  · rcases h.row.2 with h4 | ⟨k, cap, cur, e, hbg, hg, h5⟩
    · exact .inl h4
    · refine .inr ⟨k, cap, cur, e, hbg, (k4.block k (Array.getElem?_eq_some_iff.1 hg).1 (fun e1 => h.rowT (by rw [e, e1]; rfl)) (fun e1 => h2 k e1.symm (by rw [e]; rfl))).trans hg, h5⟩
  · exact (k4.block X hx h.ne.symm (fun e => h1 e.symm)).trans h.box
  · have := k4.block p.block hp2 (by omega) (fun e => by have := (hvo _ e.symm).2; omega)
    unfold World.cell?
    rw [this]

def Kept1 (w1 w w' : World) : Prop := w.heap.size ≤ w'.heap.size ∧ ∀ p : Addr, w1.heap.size ≤ p.block → p.block < w.heap.size → w'.cell? p = w.cell? p

theorem tabr_put (g : TabR w0 w1 T X most its ms am cm) (hb : Below w1.heap.size w1 w) (lo hi : Nat) (a b : Bool) (n c : Int) (hlo : lo < 2 ^ 64) (hhi : hi < 2 ^ 64) (hp : Hid (putI its most (canonS lo hi a b) n = (c, its'))) :
    Calls Try.prog 33 #[.pointer (some ⟨T, 0, none⟩), .agg #[.float .f64 lo, .float .f64 hi, .bool a, .bool b], .int .i64 n] w fun e w' => e = .returned (.int .i64 c) ∧ TabR w0 w' T X most its' ms am cm ∧ Kept1 w1 w w' := by
  obtain ⟨v, hv, h1, h2⟩ := g.tab
  have h := g.below hb
  have k1 := putI_rises h.up most lo hi a b n
  have k2 := putI_le h.le (canonS lo hi a b) n
  refine (tabPut_any (hv.below hb) h.b.size h.up lo hi a b hlo hhi n h.le h.m64).mono ?_
  rintro e w' ⟨v', rfl, k3, k4⟩
  rw [hp.out] at k1 k2 k3 ⊢
  exact ⟨rfl, tabr_upd g hb hv h1 h2 k4 k3 k1 k2⟩
theorem tabr_drop (g : TabR w0 w1 T X most its ms am cm) (hb : Below w1.heap.size w1 w) (m c : Int) (hp : Hid (kept m its = its')) (hc : Hid ((its.length : Int) - its'.length = c)) :
    Calls Try.prog 36 #[.pointer (some ⟨T, 0, none⟩), .int .i64 m] w fun e w' => e = .returned (.int .i64 c) ∧ TabR w0 w' T X most its' ms am cm ∧ Kept1 w1 w w' := by
  obtain ⟨v, hv, h1, h2⟩ := g.tab
  have h := g.below hb
  have k1 := kept_rises h.up m
  have k2 := kept_length_le m its
  have hle := h.le
  refine (tabDrop_any (hv.below hb) m).mono ?_
  rintro e w' ⟨v', rfl, k3, k4⟩
  rw [hp.out] at k1 k2 k3 ⊢
  rw [hc.out]
  exact ⟨rfl, tabr_upd g hb hv h1 h2 k4 k3 k1 (by omega)⟩
theorem tabr_clear (g : TabR w0 w1 T X most its ms am cm) (hb : Below w1.heap.size w1 w) :
    Calls Try.prog 43 #[.pointer (some ⟨T, 0, none⟩)] w fun e w' => e = .returned (.tuple #[]) ∧ TabR w0 w' T X most [] ms am cm ∧ Kept1 w1 w w' := by
  obtain ⟨v, hv, h1, h2⟩ := g.tab
  have hle := g.le
  refine (tabClear_any (hv.below hb)).mono ?_
  rintro e w' ⟨rfl, k3, k4⟩
  exact ⟨rfl, tabr_upd g hb hv h1 h2 k4 k3 List.Pairwise.nil (by simp; omega)⟩

/-- The document's table is laid anew into its box. -/
theorem tabr_box (g : TabR w0 w1 T X most its ms am cm) (hb : Below w1.heap.size w1 w) (hl : ms'.length ≤ 64) (hr : (a' = am ∧ c' = cm ∧ ms' = ms) ∨ w.ownsRow w1.heap.size 90 3 (.slice a' ms'.length c') ms'.length (mCells ms')) :
    TabR w0 ((w.setCell ⟨X, 0, none⟩ (.int .i64 most)).setCell ⟨X, 1, none⟩ (.slice a' ms'.length c')) T X most its ms' a' c' := by
  have h := g.below hb
  have hx1 := g.xlt
  obtain ⟨v, hv, h1, h2⟩ := g.tab
  have hvl := hv.lt
  have hvo := hv.own.lt
  have e1 := setCell_eq_setRow w X 0 _ _ _ (.int .i64 most) h.box
  have b1 := setRow_heap w X _ (#[Value.int .i64 most, .slice am ms.length cm].setIfInBounds 0 (.int .i64 most)) _ _ h.box
  have e2 := setCell_eq_setRow (w.setRow X (#[Value.int .i64 most, .slice am ms.length cm].setIfInBounds 0 (.int .i64 most))) X 1 _ _ _ (.slice a' ms'.length c') b1
  have b2 := setRow_heap (w.setRow X (#[Value.int .i64 most, .slice am ms.length cm].setIfInBounds 0 (.int .i64 most))) X _ ((#[Value.int .i64 most, .slice am ms.length cm].setIfInBounds 0 (.int .i64 most)).setIfInBounds 1 (.slice a' ms'.length c')) _ _ b1
  rw [e1, e2]
  have hgr := grown_trans (grownBy_setRow w X (#[Value.int .i64 most, .slice am ms.length cm].setIfInBounds 0 (.int .i64 most))) (grownBy_setRow (w.setRow X (#[Value.int .i64 most, .slice am ms.length cm].setIfInBounds 0 (.int .i64 most))) X ((#[Value.int .i64 most, .slice am ms.length cm].setIfInBounds 0 (.int .i64 most)).setIfInBounds 1 (.slice a' ms'.length c')))
  have hvw := hv.below hb
  have rowK : w.ownsRow w0.heap.size 90 3 (.slice a' ms'.length c') ms'.length (mCells ms') := by
    rcases hr with ⟨rfl, rfl, rfl⟩ | hr
    · exact h.row
    · exact own_le hr g.b.size
  have rowO : ∀ k, (k = T ∨ k = X ∨ v.ownBlock = some k) → (Value.slice a' ms'.length c').ownBlock ≠ some k := by
    intro k hk e
    rcases hr with ⟨rfl, rfl, rfl⟩ | hr
    · rcases hk with rfl | rfl | hk
      · exact g.rowT e
      · exact g.rowX e
      · exact h2 k hk e
    · have := (hr.lt k e).1
      rcases hk with rfl | rfl | hk
      · omega
      · omega
      · have := (hvo k hk).2; omega
  refine ⟨⟨v, ⟨(hgr.block T hvw.lt (by simp; exact h.ne)).trans hvw.tab, hvw.own.kept hgr (.inr h1), hvw.apart, hvw.low, hvw.len⟩, h1, fun k hk => rowO k (.inr (.inr hk))⟩, rowK.kept hgr (.inr (rowO X (.inr (.inl rfl)))), rowO T (.inl rfl), rowO X (.inr (.inl rfl)), b2, h.ne, h.low, h.b.grown hgr h.b.size (fun k hk => by cases hk; exact h.low), h.up, h.le, h.m64, hl⟩
/-- The document's items go. -/
theorem tabr_nil (g : TabR w0 w T X most its ms am cm) : TabR w0 (w.setCell ⟨X, 1, none⟩ (.slice none 0 0)) T X most its [] none 0 := by
  have h := g
  obtain ⟨v, hvw, h1, h2⟩ := g.tab
  have e1 := setCell_eq_setRow w X 1 _ _ _ (.slice none 0 0) h.box
  have b1 := setRow_heap w X _ (#[Value.int .i64 most, .slice am ms.length cm].setIfInBounds 1 (.slice none 0 0)) _ _ h.box
  rw [e1]
  have hgr := grownBy_setRow w X (#[Value.int .i64 most, .slice am ms.length cm].setIfInBounds 1 (.slice none 0 0))
  exact ⟨⟨v, ⟨(hgr.block T hvw.lt (by simp; exact h.ne)).trans hvw.tab, hvw.own.kept hgr (.inr h1), hvw.apart, hvw.low, hvw.len⟩, h1, fun k _ => by simp [Value.ownBlock]⟩, World.ownsRow_nil _ _ _ _, by simp [Value.ownBlock], by simp [Value.ownBlock], b1, h.ne, h.low, h.b.grown hgr h.b.size (fun k hk => by cases hk; exact h.low), h.up, h.le, h.m64, by simp⟩
end
end Go.Proofs.Ytnlaepogkepnhaa.Q
