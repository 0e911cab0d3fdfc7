/- One table of layer 10, or two, since a world w0: the calls as steps of what they hold. -/
import Derived.Test.YtnlaepogkepnhaaQF
namespace Go.Proofs.Ytnlaepogkepnhaa.Q
set_option linter.unusedVariables false
open Go.RowKit Fl

/-! What Put and Drop keep. -/
theorem plc_before {its : List ItV} {kb : Rg} {i : Nat} {x : ItV} (hi : i < plcI its kb) (hx : its[i]? = some x) : codeR x.k.rg < codeR kb := by
  have := List.not_of_lt_findIdx hi
  rw [List.getElem?_eq_some_iff] at hx
  obtain ⟨h1, rfl⟩ := hx
  simpa using this
theorem plc_behind {its : List ItV} (hr : rises its) {kb : Rg} {i : Nat} {x : ItV} (hi : plcI its kb ≤ i) (hx : its[i]? = some x) : codeR kb ≤ codeR x.k.rg := by
  obtain ⟨h1, h2⟩ := List.getElem?_eq_some_iff.1 hx
  have hp : plcI its kb < its.length := by omega
  have h3 : ¬ codeR its[plcI its kb].k.rg < codeR kb := by
    have e := List.findIdx_getElem (w := (show List.findIdx (fun x : ItV => !decide (codeR x.k.rg < codeR kb)) its < its.length from hp))
    rw [Bool.not_eq_true', decide_eq_false_iff_not] at e
    exact e
  apply Int.not_lt.1
  intro h4
  exact h3 (rises_mono hr kb _ _ hi _ _ (List.getElem?_eq_getElem hp) hx h4)
theorem rises_set {its : List ItV} (h : rises its) (p : Nat) (n : Int) (hp : p < its.length) : rises (its.set p ⟨(its[p]?.getD default).k, n⟩) := by
  unfold rises at *
  have e : ∀ l : List ItV, l.Pairwise (fun x y => codeR x.k.rg < codeR y.k.rg) ↔ (l.map fun x => codeR x.k.rg).Pairwise (· < ·) := fun l => by rw [List.pairwise_map]
  rw [e] at *
  have e2 : (its.set p ⟨(its[p]?.getD default).k, n⟩).map (fun x => codeR x.k.rg) = its.map fun x => codeR x.k.rg := by
    rw [List.map_set]
    apply List.ext_getElem?
    intro i
    rw [List.getElem?_set]
    split
    · rename_i h1
      subst h1
      rw [List.length_map, if_pos hp, List.getElem?_map, List.getElem?_eq_getElem hp]
      rfl
    · rfl
  rw [e2]; exact h
theorem plc_miss {its : List ItV} {kb : Rg} {i : Nat} {x : ItV} (hr : rises its) (hq : plcB its kb = false) (hi : plcI its kb ≤ i) (hx : its[i]? = some x) : codeR kb < codeR x.k.rg := by
  have h1 := plc_behind hr hi hx
  rcases Int.lt_or_eq_of_le h1 with h | h
  · exact h
  · exfalso
    obtain ⟨h2, h3⟩ := List.getElem?_eq_some_iff.1 hx
    rcases Nat.lt_or_eq_of_le hi with h4 | h4
    · have hp : plcI its kb < its.length := by omega
      have h5 := plc_behind hr (Nat.le_refl _) (List.getElem?_eq_getElem hp)
      have h6 := (List.pairwise_iff_getElem.1 hr) _ i hp h2 h4
      rw [h3] at h6
      omega
    · unfold plcB at hq
      rw [h4, hx] at hq
      simp at hq; exact hq h.symm
theorem rises_ins {its : List ItV} (hr : rises its) {kb : Rg} (hk : okR kb) (hn : kb ≠ none) (n : Int) (hq : plcB its kb = false) : rises (its.take (plcI its kb) ++ [⟨keyR kb, n⟩] ++ its.drop (plcI its kb)) := by
  have hcb := congrArg codeR (keyR_rg hk hn)
  have hlo : ∀ x ∈ its.take (plcI its kb), codeR x.k.rg < codeR kb := fun x hx => by
    obtain ⟨j, hj, rfl⟩ := List.getElem_of_mem hx
    rw [List.length_take] at hj
    have := plc_before (its := its) (kb := kb) (i := j) (by omega) (List.getElem?_eq_getElem (by omega))
    rw [List.getElem_take]; exact this
  have hhi : ∀ x ∈ its.drop (plcI its kb), codeR kb < codeR x.k.rg := fun x hx => by
    obtain ⟨j, hj, rfl⟩ := List.getElem_of_mem hx
    rw [List.length_drop] at hj
    have := plc_miss (i := plcI its kb + j) hr hq (by omega) (List.getElem?_eq_getElem (by omega))
    rw [List.getElem_drop]; exact this
  unfold rises at *
  rw [List.append_assoc, List.pairwise_append]
  refine ⟨hr.sublist (List.take_sublist _ _), ?_, ?_⟩
  · rw [List.singleton_append, List.pairwise_cons]
    exact ⟨fun y hy => by show codeR (keyR kb).rg < _; rw [hcb]; exact hhi y hy, hr.sublist (List.drop_sublist _ _)⟩
  · intro x hx y hy
    rw [List.singleton_append, List.mem_cons] at hy
    rcases hy with rfl | hy
    · show _ < codeR (keyR kb).rg
      rw [hcb]; exact hlo x hx
    · exact Int.lt_trans (hlo x hx) (hhi y hy)
theorem putI_rises {its : List ItV} (hr : rises its) (most : Int) (lo hi : Nat) (a b : Bool) (n : Int) : rises (putI its most (canonS lo hi a b) n).2 := by
  have hk := okR_canon lo hi a b
  generalize canonS lo hi a b = kb at *
  unfold putI
  split
  · exact hr
  · rename_i h1
    split
    · exact hr
    · split
      · rename_i h2; exact rises_set hr _ _ (plcB_lt h2)
      · rename_i h2
        split
        · exact hr
        · exact rises_ins hr hk h1 n (by simpa using h2)
theorem putI_le {its : List ItV} {most : Int} (h : (its.length : Int) ≤ most) (kb : Rg) (n : Int) : ((putI its most kb n).2.length : Int) ≤ most := by
  unfold putI
  split
  · exact h
  · split
    · exact h
    · split
      · simpa using h
      · split
        · exact h
        · have := plcI_le its kb
          simp; omega
theorem kept_rises {its : List ItV} (hr : rises its) (m : Int) : rises (kept m its) := List.Pairwise.sublist List.filter_sublist hr

/-! One table. -/
structure Tab1 (w0 w : World) (T : Nat) (most : Int) (its : List ItV) : Prop where
  tab : ∃ v, TabAt w w0.heap.size T v most its
  b : Below w0.heap.size w0 w
  up : rises its
  le : (its.length : Int) ≤ most
  m64 : most ≤ 64

theorem Tab1.below {w0 w w' : World} {T : Nat} {most : Int} {its : List ItV} (h : Tab1 w0 w T most its) (hb : Below w.heap.size w w') : Tab1 w0 w' T most its := by
  obtain ⟨v, hv⟩ := h.tab
  exact ⟨⟨v, hv.below hb⟩, h.b.trans (hb.mono h.b.size), h.up, h.le, h.m64⟩
theorem Tab1.lt {w0 w : World} {T : Nat} {most : Int} {its : List ItV} (h : Tab1 w0 w T most its) : T < w.heap.size := by
  obtain ⟨v, hv⟩ := h.tab
  exact hv.lt
theorem Upd.b {w0 w w' : World} {T : Nat} {v v' : Value} (h : Upd w w' T v v') (hT : w0.heap.size ≤ T) (hv : ∀ g, v.ownBlock = some g → w0.heap.size ≤ g) (hb : Below w0.heap.size w0 w) : Below w0.heap.size w0 w' :=
  ⟨h.os.trans hb.os, h.tape.trans hb.tape, h.output.trans hb.output, Nat.le_trans hb.size h.size, fun k hk => (h.block k (Nat.lt_of_lt_of_le hk hb.size) (by omega) (fun e => by have := hv k e.symm; omega)).trans (hb.block k hk)⟩
theorem mostI_le (m : Int) : mostI m ≤ 64 := by unfold mostI; omega
theorem mostI_ge (m : Int) : 0 ≤ mostI m := by unfold mostI; omega

theorem tab_new {w0 w : World} (hb : Below w0.heap.size w0 w) (m : Int) (h1 : -9223372036854775808 ≤ m) (h2 : m ≤ 9223372036854775807) :
    Calls Try.prog 30 #[.int .i64 m] w fun e w' => ∃ T, e = .returned (.pointer (some ⟨T, 0, none⟩)) ∧ Tab1 w0 w' T (mostI m) [] := by
  refine (tabNew_any w0.heap.size m w hb.size h1 h2).mono ?_
  rintro e w' ⟨rfl, h, hb'⟩
  exact ⟨_, rfl, ⟨_, h⟩, hb.trans (hb'.mono hb.size), List.Pairwise.nil, mostI_ge m, mostI_le m⟩
theorem tab_put {w0 w : World} {T : Nat} {most : Int} {its its' : List ItV} (h : Tab1 w0 w T most its) (lo hi : Nat) (a b : Bool) (n c : Int) (hl : lo < 2 ^ 64) (hh : hi < 2 ^ 64) (hp : Hid (putI its most (canonS lo hi a b) n = (c, its'))) :
    Calls Try.prog 33 #[.pointer (some ⟨T, 0, none⟩), .agg #[.float .f64 lo, .float .f64 hi, .bool a, .bool b], .int .i64 n] w fun e w' => e = .returned (.int .i64 c) ∧ Tab1 w0 w' T most its' := by
  obtain ⟨v, hv⟩ := h.tab
  have h1 := putI_rises h.up most lo hi a b n
  have h2 := putI_le h.le (canonS lo hi a b) n
  refine (tabPut_any hv h.b.size h.up lo hi a b hl hh n h.le h.m64).mono ?_
  rintro e w' ⟨v', rfl, h3, h4⟩
  rw [hp.out] at h1 h2 h3 ⊢
  exact ⟨rfl, ⟨v', h3⟩, h4.b hv.low (fun g e => (hv.own.lt g e).1) h.b, h1, h2, h.m64⟩
theorem tab_drop {w0 w : World} {T : Nat} {most : Int} {its its' : List ItV} (h : Tab1 w0 w T most its) (m c : Int) (hp : Hid (kept m its = its')) (hc : Hid ((its.length : Int) - its'.length = c)) :
    Calls Try.prog 36 #[.pointer (some ⟨T, 0, none⟩), .int .i64 m] w fun e w' => e = .returned (.int .i64 c) ∧ Tab1 w0 w' T most its' := by
  obtain ⟨v, hv⟩ := h.tab
  have h1 := kept_rises h.up m
  have h2 := kept_length_le m its
  refine (tabDrop_any hv m).mono ?_
  rintro e w' ⟨v', rfl, h3, h4⟩
  rw [hp.out] at h1 h2 h3 ⊢
  rw [hc.out]
  exact ⟨rfl, ⟨v', h3⟩, h4.b hv.low (fun g e => (hv.own.lt g e).1) h.b, h1, by have := h.le; omega, h.m64⟩
theorem tab_clear {w0 w : World} {T : Nat} {most : Int} {its : List ItV} (h : Tab1 w0 w T most its) :
    Calls Try.prog 43 #[.pointer (some ⟨T, 0, none⟩)] w fun e w' => e = .returned (.tuple #[]) ∧ Tab1 w0 w' T most [] := by
  obtain ⟨v, hv⟩ := h.tab
  refine (tabClear_any hv).mono ?_
  rintro e w' ⟨rfl, h3, h4⟩
  exact ⟨rfl, ⟨_, h3⟩, h4.b hv.low (fun g e => (hv.own.lt g e).1) h.b, List.Pairwise.nil, by have := h.le; simp; omega, h.m64⟩
theorem tab_at {w0 w : World} {T : Nat} {most : Int} {its : List ItV} (h : Tab1 w0 w T most its) (kb : Nat) (v : Int) (hk : kb < 2 ^ 64) (hv : Hid (atI its kb = v)) :
    Calls Try.prog 32 #[.pointer (some ⟨T, 0, none⟩), .float .f64 kb] w (Ret (.int .i64 v) w) := by
  obtain ⟨_, h1⟩ := h.tab
  have := tabAt_any h1 h.up kb hk
  rwa [hv.out] at this
theorem tab_len {w0 w : World} {T : Nat} {most : Int} {its : List ItV} (h : Tab1 w0 w T most its) (v : Int) (hv : Hid ((its.length : Int) = v)) :
    Calls Try.prog 35 #[.pointer (some ⟨T, 0, none⟩)] w (Ret (.int .i64 v) w) := by
  obtain ⟨_, h1⟩ := h.tab
  have := tabLen_any h1
  rwa [hv.out] at this
theorem tab_all {w0 w : World} {T : Nat} {most : Int} {its : List ItV} (h : Tab1 w0 w T most its) :
    Calls Try.prog 34 #[.pointer (some ⟨T, 0, none⟩)] w (fun e w' => ∃ a c, e = .returned (.slice a its.length c) ∧ w'.ownsRow w.heap.size 70 5 (.slice a its.length c) its.length (itCells its) ∧ Below w.heap.size w w') := by
  obtain ⟨_, h1⟩ := h.tab
  refine (tabAll_any h1).mono ?_
  rintro e w' ⟨v', rfl, h2, h3⟩
  obtain ⟨a, c, rfl⟩ := own_slice h2
  exact ⟨a, c, rfl, h2, h3⟩
end Go.Proofs.Ytnlaepogkepnhaa.Q
