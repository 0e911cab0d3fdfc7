/- A table of layer 10 beside the document's: how it starts; Drop while the box of the round is kept. -/
import Derived.Test.YtnlaepogkepnhaaQX
namespace Go.Proofs.Ytnlaepogkepnhaa.Q
set_option linter.unusedVariables false
open Go.RowKit Fl

section
variable {w0 w w' w1 : World} {T X : Nat} {most : Int} {its its' ms ms' : List ItV} {am a' : Option Addr} {cm c' : Nat}

theorem tabr_init (h : Tab1 w0 w T most []) :
    TabR w0 (w.alloc (.cells #[.int .i64 most, .slice none 0 0] 79)) T w.heap.size most [] [] none 0 := by
  have hb : Below w.heap.size w (w.alloc (.cells #[.int .i64 most, .slice none 0 0] 79)) := by (repeat (first | with_reducible exact Below.refl _ _ | ((with_reducible refine Below.alloc1 ?_ ?_ _); (· first | omega | (simp; done) | (simp; omega))) | (with_reducible refine Below.drew ?_) | (with_reducible refine below_drewN' ?_ _) | ((with_reducible refine Below.setCell1 ?_ ?_ _); (· first | omega | (simp; done) | (simp; omega))) | ((with_reducible refine Below.after (by assumption) ?_ ?_); (· first | omega | (simp; done) | (simp; omega)))))
  have h' := h.below hb
  obtain ⟨v, hv⟩ := h.tab
  have hvl := hv.own.lt
  have hT := h.lt
  exact ⟨⟨v, hv.below hb, fun e => by have := (hvl _ e).2; omega, fun g _ => by simp [Value.ownBlock]⟩, World.ownsRow_nil _ _ _ _, by simp [Value.ownBlock], by simp [Value.ownBlock], heap_alloc_new w _, by omega, h.b.size, h'.b, h.up, h.le, h.m64, by simp⟩

/-- Drop, where the document's table has turned since w1: what was made since is kept. -/
theorem tabr_drop2 (g : TabR w0 w1 T X most its ms am cm) (h : TabR w0 w T X most its ms' a' c') (hsz : w1.heap.size ≤ w.heap.size) (hT : w.heap[T]? = w1.heap[T]?) (m c : Int) (hp : Hid (kept m its = its')) (hc : Hid ((its.length : Int) - its'.length = c)) :
    Calls Try.prog 36 #[.pointer (some ⟨T, 0, none⟩), .int .i64 m] w fun e w' => e = .returned (.int .i64 c) ∧ TabR w0 w' T X most its' ms' a' c' ∧ Kept1 w1 w w' := by
  obtain ⟨v1, hv1, _, _⟩ := g.tab
  obtain ⟨v, hv, h1, h2⟩ := h.tab
  obtain rfl : v = v1 := by
    have e1 := hv.tab
    rw [hT, hv1.tab] at e1
    simpa using e1.symm
  have k1 := kept_rises h.up m
  have k2 := kept_length_le m its
  have hle := h.le
  have hvo := hv1.own.lt
  have hvl := hv1.lt
  refine (tabDrop_any hv m).mono ?_
  rintro e w' ⟨v', rfl, k3, k4⟩
  rw [hp.out] at k1 k2 k3 ⊢
  rw [hc.out]
  obtain ⟨q1, q2, _⟩ := tabr_upd h (Below.refl _ _) hv h1 h2 k4 k3 k1 (by omega)
  refine ⟨rfl, q1, q2, fun p hp1 hp2 => ?_⟩
  have := k4.block p.block hp2 (by omega) (fun e => by have := (hvo _ e.symm).2; omega)
  unfold World.cell?
  rw [this]

theorem tabr_refAt (h : TabR w0 w T X most its ms am cm) (kb : Nat) (v : Int) (hk : kb < 2 ^ 64) (hv : Hid (atI ms kb = v)) :
    Calls Try.prog 44 #[.agg #[.int .i64 most, .slice am ms.length cm], .float .f64 kb] w (Ret (.int .i64 v) w) := by
  have := refAt_any most am cm ms kb w h.mat hk
  rwa [hv.out] at this
/-- A value is a slice of a row of its own. -/
def ItsRow (B : Nat) (its : List ItV) (v : Value) (w : World) : Prop := ∃ a c, v = .slice a its.length c ∧ w.ownsRow B 70 5 v its.length (itCells its)
def MsRow (B : Nat) (ms : List ItV) (v : Value) (w : World) : Prop := ∃ a c, v = .slice a ms.length c ∧ w.ownsRow B 90 3 v ms.length (mCells ms)
theorem ItsRow.below {B : Nat} {v : Value} (h : ItsRow B its v w) (hb : Below w.heap.size w w') : ItsRow B its v w' := by
  obtain ⟨a, c, e, h⟩ := h
  exact ⟨a, c, e, h.kept (grown_of_below hb) (by cases v.ownBlock <;> simp)⟩
theorem MsRow.below {B : Nat} {v : Value} (h : MsRow B ms v w) (hb : Below w.heap.size w w') : MsRow B ms v w' := by
  obtain ⟨a, c, e, h⟩ := h
  exact ⟨a, c, e, h.kept (grown_of_below hb) (by cases v.ownBlock <;> simp)⟩
theorem tabr_all (h : TabR w0 w T X most its ms am cm) (B : Nat) (hB : B ≤ w.heap.size) :
    Calls Try.prog 34 #[.pointer (some ⟨T, 0, none⟩)] w (fun e w' => ∃ v, e = .returned v ∧ ItsRow B its v w' ∧ Below w.heap.size w w') := by
  refine (tab_all h.one).mono ?_
  rintro e w' ⟨a, c, rfl, h1, h2⟩
  exact ⟨_, rfl, ⟨a, c, rfl, own_le h1 hB⟩, h2⟩
theorem tabr_refAll (h : TabR w0 w T X most its ms am cm) (hs : Hid (allR ms ms.length = its)) (B : Nat) (hB : B ≤ w.heap.size) :
    Calls Try.prog 45 #[.agg #[.int .i64 most, .slice am ms.length cm]] w (fun e w' => ∃ v, e = .returned v ∧ MsRow B its v w' ∧ Below w.heap.size w w') := by
  refine (refAll_any most am cm ms w h.mat).mono ?_
  rw [hs.out]
  rintro e w' ⟨a, c, rfl, h1, h2⟩
  exact ⟨_, rfl, ⟨a, c, rfl, own_le h1 hB⟩, h2⟩
theorem rows_apart {B N : Nat} {v1 v2 : Value} (h1 : ItsRow B its v1 w) (h2 : MsRow B its v2 w) (hN : its.length = N) (hlen : its.length ≤ 64) : ∃ a1 c1 a2 c2, v1 = .slice a1 N c1 ∧ v2 = .slice a2 N c2 ∧ (0 < N → ∃ g1 g2, a1 = some ⟨g1, 0, none⟩ ∧ a2 = some ⟨g2, 0, none⟩ ∧ g1 ≠ g2 ∧ B ≤ g1 ∧ g1 < w.heap.size ∧ g2 < w.heap.size ∧
    (∀ i, i < N → w.cell? ⟨g1, i * 5, none⟩ = some (.float .f64 (its[i]?.getD default).k.lo.bits) ∧ w.cell? ⟨g1, i * 5 + 1, none⟩ = some (.float .f64 (its[i]?.getD default).k.hi.bits) ∧ w.cell? ⟨g1, i * 5 + 2, none⟩ = some (.bool false) ∧ w.cell? ⟨g1, i * 5 + 3, none⟩ = some (.bool false) ∧ w.cell? ⟨g1, i * 5 + 4, none⟩ = some (.int .i64 (its[i]?.getD default).n)) ∧
    (∀ i, i < N → w.cell? ⟨g2, i * 3, none⟩ = some (.int .u64 (kcode (its[i]?.getD default).k.lo)) ∧ w.cell? ⟨g2, i * 3 + 1, none⟩ = some (.int .u64 (kcode (its[i]?.getD default).k.hi)) ∧ w.cell? ⟨g2, i * 3 + 2, none⟩ = some (.int .i64 (its[i]?.getD default).n)) ∧
    ∀ j, w.frozen? ⟨g1, j, none⟩ = false) := by
  subst hN
  obtain ⟨a1, c1, rfl, o1⟩ := h1
  obtain ⟨a2, c2, rfl, o2⟩ := h2
  refine ⟨a1, c1, a2, c2, rfl, rfl, fun h0 => ?_⟩
  rcases o1.2 with ⟨_, e1⟩ | ⟨g1, cap1, cur1, e1, hb1, hg1, _⟩
  · have := itCells_len its
    rw [e1] at this; simp at this; omega
  · rcases o2.2 with ⟨_, e2⟩ | ⟨g2, cap2, cur2, e2, hb2, hg2, _, hcm, hcs, htake⟩
    · have := mCells_len its
      rw [e2] at this; simp at this; omega
    · obtain ⟨rfl, rfl⟩ : a1 = some ⟨g1, 0, none⟩ ∧ c1 = cap1 := by cases e1; exact ⟨rfl, rfl⟩
      obtain ⟨rfl, rfl⟩ : a2 = some ⟨g2, 0, none⟩ ∧ c2 = cap2 := by cases e2; exact ⟨rfl, rfl⟩
      obtain ⟨g, e, -, hcc⟩ := own_at o1 rfl h0
      cases e
      obtain ⟨g, e, -, hcd⟩ := (mat_own o2 hlen).row h0
      cases e
      refine ⟨g1, g2, rfl, rfl, fun e => ?_, hb1, (Array.getElem?_eq_some_iff.1 hg1).1, (Array.getElem?_eq_some_iff.1 hg2).1, hcc, hcd, fun j => by simp [World.frozen?, hg1]⟩
      subst e
      rw [hg1] at hg2
      simp at hg2
end
end Go.Proofs.Ytnlaepogkepnhaa.Q
