/- Two tables of layer 10 beside each other. -/
import Derived.Test.YtnlaepogkepnhaaQS
namespace Go.Proofs.Ytnlaepogkepnhaa.Q
set_option linter.unusedVariables false
open Go.RowKit Fl

structure Tab2 (w0 w : World) (T1 T2 : Nat) (most : Int) (i1 i2 : List ItV) : Prop where
  tab : ∃ v1 v2, TabAt w w0.heap.size T1 v1 most i1 ∧ TabAt w w0.heap.size T2 v2 most i2 ∧ T1 ≠ T2 ∧ v1.ownBlock ≠ some T2 ∧ v2.ownBlock ≠ some T1 ∧ ∀ g, v1.ownBlock = some g → v2.ownBlock ≠ some g
  b : Below w0.heap.size w0 w
  up1 : rises i1
  up2 : rises i2
  le1 : (i1.length : Int) ≤ most
  le2 : (i2.length : Int) ≤ most
  m64 : most ≤ 64

theorem Tab2.swap {w0 w : World} {T1 T2 : Nat} {most : Int} {i1 i2 : List ItV} (h : Tab2 w0 w T1 T2 most i1 i2) : Tab2 w0 w T2 T1 most i2 i1 := by
  obtain ⟨v1, v2, h1, h2, h3, h4, h5, h6⟩ := h.tab
  exact ⟨⟨v2, v1, h2, h1, h3.symm, h5, h4, fun g e e' => h6 g e' e⟩, h.b, h.up2, h.up1, h.le2, h.le1, h.m64⟩
theorem Tab2.below {w0 w w' : World} {T1 T2 : Nat} {most : Int} {i1 i2 : List ItV} (h : Tab2 w0 w T1 T2 most i1 i2) (hb : Below w.heap.size w w') : Tab2 w0 w' T1 T2 most i1 i2 := by
  obtain ⟨v1, v2, h1, h2, h3⟩ := h.tab
  exact ⟨⟨v1, v2, h1.below hb, h2.below hb, h3⟩, h.b.trans (hb.mono h.b.size), h.up1, h.up2, h.le1, h.le2, h.m64⟩
theorem Tab2.fst {w0 w : World} {T1 T2 : Nat} {most : Int} {i1 i2 : List ItV} (h : Tab2 w0 w T1 T2 most i1 i2) : Tab1 w0 w T1 most i1 := by
  obtain ⟨v1, v2, h1, h2, h3⟩ := h.tab
  exact ⟨⟨v1, h1⟩, h.b, h.up1, h.le1, h.m64⟩
theorem Tab2.snd {w0 w : World} {T1 T2 : Nat} {most : Int} {i1 i2 : List ItV} (h : Tab2 w0 w T1 T2 most i1 i2) : Tab1 w0 w T2 most i2 := h.swap.fst
theorem Tab2.ne {w0 w : World} {T1 T2 : Nat} {most : Int} {i1 i2 : List ItV} (h : Tab2 w0 w T1 T2 most i1 i2) : T1 ≠ T2 := by
  obtain ⟨v1, v2, h1, h2, h3, h4⟩ := h.tab
  exact h3

theorem Upd.tab {w w' : World} {B T1 T2 : Nat} {v1 v1' v2 : Value} {most : Int} {i2 : List ItV} (h : Upd w w' T1 v1 v1') (hne : T1 ≠ T2) (h1 : v1.ownBlock ≠ some T2) (h2 : v2.ownBlock ≠ some T1) (h3 : ∀ g, v1.ownBlock = some g → v2.ownBlock ≠ some g) (ht : TabAt w B T2 v2 most i2) : TabAt w' B T2 v2 most i2 := by
  refine ⟨(h.block T2 ht.lt hne.symm (fun e => h1 e.symm)).trans ht.tab, ⟨ht.own.1, ?_⟩, ht.apart, ht.low, ht.len⟩
  rcases ht.own.2 with h4 | ⟨g, cap, cur, rfl, hbg, hg, h5⟩
  · exact .inl h4
  · exact .inr ⟨g, cap, cur, rfl, hbg, (h.block g (Array.getElem?_eq_some_iff.1 hg).1 (fun e => h2 (by rw [e]; rfl)) (fun e => h3 g e.symm rfl)).trans hg, h5⟩

theorem tab2_new {w0 w : World} {T1 : Nat} {i1 : List ItV} (h : Tab1 w0 w T1 64 i1) :
    Calls Try.prog 30 #[.int .i64 64] w fun e w' => ∃ T2, e = .returned (.pointer (some ⟨T2, 0, none⟩)) ∧ Tab2 w0 w' T1 T2 64 i1 [] := by
  obtain ⟨v, hv⟩ := h.tab
  refine (tabNew_any w0.heap.size 64 w h.b.size (by omega) (by omega)).mono ?_
  rintro e w' ⟨rfl, h1, hb'⟩
  have hl := hv.lt
  have ho := hv.own.lt
  exact ⟨_, rfl, ⟨v, _, hv.below hb', h1, by omega, fun e => by have := (ho _ e).2; omega, by simp [Value.ownBlock], fun g _ => by simp [Value.ownBlock]⟩, h.b.trans (hb'.mono h.b.size), h.up, List.Pairwise.nil, h.le, by simp, by omega⟩
theorem tab2_put {w0 w : World} {T1 T2 : Nat} {most : Int} {i1 i2 i' : List ItV} (h : Tab2 w0 w T1 T2 most i1 i2) (lo hi : Nat) (a b : Bool) (n c : Int) (hl : lo < 2 ^ 64) (hh : hi < 2 ^ 64) (hp : Hid (putI i1 most (canonS lo hi a b) n = (c, i'))) :
    Calls Try.prog 33 #[.pointer (some ⟨T1, 0, none⟩), .agg #[.float .f64 lo, .float .f64 hi, .bool a, .bool b], .int .i64 n] w fun e w' => e = .returned (.int .i64 c) ∧ Tab2 w0 w' T1 T2 most i' i2 := by
  obtain ⟨v1, v2, h1, h2, h3, h4, h5, h6⟩ := h.tab
  have k1 := putI_rises h.up1 most lo hi a b n
  have k2 := putI_le h.le1 (canonS lo hi a b) n
  refine (tabPut_any h1 h.b.size h.up1 lo hi a b hl hh n h.le1 h.m64).mono ?_
  rintro e w' ⟨v', rfl, k3, k4⟩
  rw [hp.out] at k1 k2 k3 ⊢
  have hl2 := h2.lt
  have ho2 := h2.own.lt
  refine ⟨rfl, ⟨v', v2, k3, k4.tab h3 h4 h5 h6 h2, h3, ?_, h5, ?_⟩, k4.b h1.low (fun g e => (h1.own.lt g e).1) h.b, k1, h.up2, k2, h.le2, h.m64⟩
  · rcases k4.own with e | e | ⟨g, e, hg⟩
    · rw [e]; exact h4
    · rw [e]; simp
    · rw [e]; intro e'; cases e'; omega
  · intro g' e'
    rcases k4.own with e | e | ⟨g, e, hg⟩
    · rw [e] at e'; exact h6 g' e'
    · rw [e] at e'; cases e'
    · rw [e] at e'; cases e'
      intro e2; have := (ho2 _ e2).2; omega
theorem tab2_put2 {w0 w : World} {T1 T2 : Nat} {most : Int} {i1 i2 i' : List ItV} (h : Tab2 w0 w T1 T2 most i1 i2) (lo hi : Nat) (a b : Bool) (n c : Int) (hl : lo < 2 ^ 64) (hh : hi < 2 ^ 64) (hp : Hid (putI i2 most (canonS lo hi a b) n = (c, i'))) :
    Calls Try.prog 33 #[.pointer (some ⟨T2, 0, none⟩), .agg #[.float .f64 lo, .float .f64 hi, .bool a, .bool b], .int .i64 n] w fun e w' => e = .returned (.int .i64 c) ∧ Tab2 w0 w' T1 T2 most i1 i' :=
  (tab2_put h.swap lo hi a b n c hl hh hp).mono fun _ _ ⟨h1, h2⟩ => ⟨h1, h2.swap⟩
/-- Put, with what was made since the world w1 kept. -/
theorem tab2_put_f {w0 w1 w : World} {T1 T2 : Nat} {most : Int} {i1 i2 i' : List ItV} (h' : Tab2 w0 w1 T1 T2 most i1 i2) (hb : Below w1.heap.size w1 w) (lo hi : Nat) (a b : Bool) (n c : Int) (hl : lo < 2 ^ 64) (hh : hi < 2 ^ 64) (hp : Hid (putI i1 most (canonS lo hi a b) n = (c, i'))) :
    Calls Try.prog 33 #[.pointer (some ⟨T1, 0, none⟩), .agg #[.float .f64 lo, .float .f64 hi, .bool a, .bool b], .int .i64 n] w fun e w' => e = .returned (.int .i64 c) ∧ Tab2 w0 w' T1 T2 most i' i2 ∧ w.heap.size ≤ w'.heap.size ∧ ∀ p : Addr, w1.heap.size ≤ p.block → p.block < w.heap.size → w'.cell? p = w.cell? p := by
  have h := h'.below hb
  obtain ⟨v1, v2, g1, g2, h3, h4, h5, h6⟩ := h'.tab
  have h1 := g1.below hb
  have h2 := g2.below hb
  have k1 := putI_rises h.up1 most lo hi a b n
  have k2 := putI_le h.le1 (canonS lo hi a b) n
  refine (tabPut_any h1 h.b.size h.up1 lo hi a b hl hh n h.le1 h.m64).mono ?_
  rintro e w' ⟨v', rfl, k3, k4⟩
  rw [hp.out] at k1 k2 k3 ⊢
  have hl1 := g1.lt
  have hl2 := h2.lt
  have ho1 := g1.own.lt
  have ho2 := h2.own.lt
  refine ⟨rfl, ⟨⟨v', v2, k3, k4.tab h3 h4 h5 h6 h2, h3, ?_, h5, ?_⟩, k4.b h1.low (fun g e => (h1.own.lt g e).1) h.b, k1, h.up2, k2, h.le2, h.m64⟩, k4.size, fun p hp1 hp2 => ?_⟩
  · rcases k4.own with e | e | ⟨g, e, hg⟩
    · rw [e]; exact h4
    · rw [e]; simp
    · rw [e]; intro e'; cases e'; omega
  · intro g' e'
    rcases k4.own with e | e | ⟨g, e, hg⟩
    · rw [e] at e'; exact h6 g' e'
    · rw [e] at e'; cases e'
    · rw [e] at e'; cases e'
      intro e2; have := (ho2 _ e2).2; omega
  · have := k4.block p.block hp2 (by omega) (fun e => by have := (ho1 _ e.symm).2; omega)
    unfold World.cell?
    rw [this]
end Go.Proofs.Ytnlaepogkepnhaa.Q
