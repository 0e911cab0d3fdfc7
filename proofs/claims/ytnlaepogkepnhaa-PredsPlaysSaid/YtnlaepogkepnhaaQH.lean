/- What a table of layer 10 answers at a key: plain laws. -/
import Derived.Test.YtnlaepogkepnhaaQG
namespace Go.Proofs.Ytnlaepogkepnhaa.Q
set_option linter.unusedVariables false
open Go.RowKit Fl

theorem at_from (key : Nat) : ∀ (its : List ItV) (m : Int), m ≤ its.foldl (fun m x => if hasB x.k.rg key = true then max m x.n else m) m
  | [], m => Int.le_refl _
  | x :: its, m => by
    rw [List.foldl_cons]
    refine Int.le_trans ?_ (at_from key its _)
    split <;> omega
theorem at_ge_from (key : Nat) (its : List ItV) : ∀ (m : Int) (x : ItV), x ∈ its → hasB x.k.rg key = true → x.n ≤ its.foldl (fun m x => if hasB x.k.rg key = true then max m x.n else m) m := by
  induction its with
  | nil => intro m x hx; cases hx
  | cons y its ih =>
    intro m x hx hb
    rw [List.foldl_cons]
    rcases List.mem_cons.1 hx with rfl | hx
    · refine Int.le_trans ?_ (at_from key its _)
      rw [if_pos hb]; omega
    · exact ih _ x hx hb
theorem at_ge {its : List ItV} {x : ItV} {key : Nat} (hx : x ∈ its) (hb : hasB x.k.rg key = true) : x.n ≤ atI its key := at_ge_from key its 0 x hx hb
theorem atI_nonneg (its : List ItV) (key : Nat) : 0 ≤ atI its key := at_from key its 0
theorem at_char_from (key : Nat) : ∀ (its : List ItV) (m : Int), its.foldl (fun m x => if hasB x.k.rg key = true then max m x.n else m) m = m ∨ ∃ x ∈ its, hasB x.k.rg key = true ∧ its.foldl (fun m x => if hasB x.k.rg key = true then max m x.n else m) m = x.n
  | [], m => .inl rfl
  | y :: its, m => by
    rw [List.foldl_cons]
    rcases at_char_from key its (if hasB y.k.rg key = true then max m y.n else m) with e | ⟨x, hx, hb, e⟩
    · rw [e]
      by_cases hb : hasB y.k.rg key = true
      · rw [if_pos hb]
        by_cases h : m ≤ y.n
        · exact .inr ⟨y, by simp, hb, by omega⟩
        · exact .inl (by omega)
      · rw [if_neg hb]; exact .inl rfl
    · exact .inr ⟨x, by simp [hx], hb, e⟩
theorem at_char (its : List ItV) (key : Nat) : atI its key = 0 ∨ ∃ x ∈ its, hasB x.k.rg key = true ∧ atI its key = x.n := at_char_from key its 0
theorem dom_atK {its its' : List ItV} (h : dom its its') (key : Nat) : atI its key ≤ atI its' key := by
  rcases at_char its key with e | ⟨x, hx, hb, e⟩
  · rw [e]; exact atI_nonneg _ _
  · obtain ⟨y, hy, h1, h2⟩ := h x hx
    have := at_ge hy (key := key) (by rw [h1]; exact hb)
    omega
theorem putI_at {its : List ItV} (hr : rises its) (hp : pos its) (most : Int) (kb : Rg) (ok : okR kb) (n : Int) (h0 : (putI its most kb n).1 = 0) {key : Nat} (hb : hasB kb key = true) : n ≤ atI (putI its most kb n).2 key := by
  obtain ⟨hn, _, _, hm⟩ := mem_putI hr hp most kb ok n h0
  have := at_ge ((hm ⟨keyR kb, max (numI its kb) n⟩).2 (.inr ⟨rfl, rfl⟩)) (key := key) (by show hasB (keyR kb).rg key = true; rw [keyR_rg ok hn]; exact hb)
  refine Int.le_trans ?_ this
  show n ≤ max _ _; omega
theorem at_kept_snoc (m : Int) {its : List ItV} {t : Nat} {x : ItV} (hx : its[t]? = some x) (key : Nat) : atI (kept m (its.take (t + 1))) key = if m < x.n ∧ hasB x.k.rg key = true then max (atI (kept m (its.take t)) key) x.n else atI (kept m (its.take t)) key := by
  rw [kept_snoc m hx]
  by_cases h : x.n ≤ m
  · rw [if_pos (by simpa using h), List.append_nil, if_neg (fun h' => by omega)]
  · rw [if_neg (by simpa using h), atI_snoc]
    by_cases hb : hasB x.k.rg key = true
    · rw [if_pos hb, if_pos ⟨by omega, hb⟩]
    · rw [if_neg hb, if_neg (fun h' => hb h'.2)]
theorem tab_drop_row {w0 w1 w : World} {T : Nat} {most : Int} {its its' xs : List ItV} (h : Tab1 w0 w1 T most its) (hb : Below w1.heap.size w1 w) (m c : Int) (a : Option Addr) (n ca : Nat) (hrow : w.ownsRow w1.heap.size 70 5 (.slice a n ca) n (itCells xs)) (hp : Hid (kept m its = its')) (hc : Hid ((its.length : Int) - its'.length = c)) :
    Calls Try.prog 36 #[.pointer (some ⟨T, 0, none⟩), .int .i64 m] w fun e w' => e = .returned (.int .i64 c) ∧ Tab1 w0 w' T most its' ∧ w'.ownsRow w1.heap.size 70 5 (.slice a n ca) n (itCells xs) := by
  obtain ⟨v, hv1⟩ := h.tab
  have hv := hv1.below hb
  have h' := h.below hb
  have h1 := kept_rises h.up m
  have h2 := kept_length_le m its
  refine (tabDrop_any hv m).mono ?_
  rintro e w' ⟨v', rfl, h3, h4⟩
  rw [hp.out] at h1 h2 h3 ⊢
  rw [hc.out]
  exact ⟨rfl, ⟨⟨v', h3⟩, h4.b hv.low (fun g e => (hv.own.lt g e).1) h'.b, h1, by have := h.le; omega, h.m64⟩, h4.row hv1.lt (fun g e => (hv1.own.lt g e).2) hrow⟩
end Go.Proofs.Ytnlaepogkepnhaa.Q
