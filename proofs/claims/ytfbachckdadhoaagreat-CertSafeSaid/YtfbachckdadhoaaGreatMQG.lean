/- Several texts as one: QS2 QLA QG QH. -/
import Derived.Test.YtfbachckdadhoaaGreatMQD
namespace Go.Proofs.YtfbachckdadhoaaGreat.Q
set_option linter.unusedVariables false
open Go.RowKit Fl

structure Tab2 (w0 w : World) (T1 T2 : Nat) (most : Int) (i1 i2 : List ItV) : Prop where
 tab : ∃ v1 v2, TabAt w w0.heap.size T1 v1 most i1 ∧ TabAt w w0.heap.size T2 v2 most i2 ∧ T1 ≠ T2 ∧ v1.ownBlock ≠ some T2 ∧ v2.ownBlock ≠ some T1 ∧ ∀ g, v1.ownBlock = some g → v2.ownBlock ≠ some g
 b : Below w0.heap.size w0 w
 up1 : rises i1
 up2 : rises i2
 le1 : (i1.length : Int) ≤ most
 le2 : (i2.length : Int) ≤ most
 m64 : most ≤ 64

theorem Tab2.swap {w0 w : World} {T1 T2 : Nat} {most : Int} {i1 i2 : List ItV} (h : Tab2 w0 w T1 T2 most i1 i2) : Tab2 w0 w T2 T1 most i2 i1 := by
 obtain ⟨v1, v2, h1, h2, h3, h4, h5, h6⟩ := h.tab
 exact ⟨⟨v2, v1, h2, h1, h3.symm, h5, h4, fun g e e' => h6 g e' e⟩, h.b, h.up2, h.up1, h.le2, h.le1, h.m64⟩
theorem Tab2.below {w0 w w' : World} {T1 T2 : Nat} {most : Int} {i1 i2 : List ItV} (h : Tab2 w0 w T1 T2 most i1 i2) (hb : Below w.heap.size w w') : Tab2 w0 w' T1 T2 most i1 i2 := by
 obtain ⟨v1, v2, h1, h2, h3⟩ := h.tab
 exact ⟨⟨v1, v2, h1.below hb, h2.below hb, h3⟩, h.b.trans (hb.mono h.b.size), h.up1, h.up2, h.le1, h.le2, h.m64⟩
theorem Tab2.fst {w0 w : World} {T1 T2 : Nat} {most : Int} {i1 i2 : List ItV} (h : Tab2 w0 w T1 T2 most i1 i2) : Tab1 w0 w T1 most i1 := by
 obtain ⟨v1, v2, h1, h2, h3⟩ := h.tab
 exact ⟨⟨v1, h1⟩, h.b, h.up1, h.le1, h.m64⟩
theorem Tab2.snd {w0 w : World} {T1 T2 : Nat} {most : Int} {i1 i2 : List ItV} (h : Tab2 w0 w T1 T2 most i1 i2) : Tab1 w0 w T2 most i2 := h.swap.fst
theorem Tab2.ne {w0 w : World} {T1 T2 : Nat} {most : Int} {i1 i2 : List ItV} (h : Tab2 w0 w T1 T2 most i1 i2) : T1 ≠ T2 := by
 obtain ⟨v1, v2, h1, h2, h3, h4⟩ := h.tab
 exact h3

theorem Upd.tab {w w' : World} {B T1 T2 : Nat} {v1 v1' v2 : Value} {most : Int} {i2 : List ItV} (h : Upd w w' T1 v1 v1') (hne : T1 ≠ T2) (h1 : v1.ownBlock ≠ some T2) (h2 : v2.ownBlock ≠ some T1) (h3 : ∀ g, v1.ownBlock = some g → v2.ownBlock ≠ some g) (ht : TabAt w B T2 v2 most i2) : TabAt w' B T2 v2 most i2 := by
 refine ⟨(h.block T2 ht.lt hne.symm (fun e => h1 e.symm)).trans ht.tab, ⟨ht.own.1, ?_⟩, ht.apart, ht.low, ht.len⟩
 rcases ht.own.2 with h4 | ⟨g, cap, cur, rfl, hbg, hg, h5⟩
 ·exact .inl h4
 ·exact .inr ⟨g, cap, cur, rfl, hbg, (h.block g (Array.getElem?_eq_some_iff.1 hg).1 (fun e => h2 (by rw [e]; rfl)) (fun e => h3 g e.symm rfl)).trans hg, h5⟩

theorem tab2_new {w0 w : World} {T1 : Nat} {i1 : List ItV} (h : Tab1 w0 w T1 64 i1) :
  Calls Tryz.prog 32 #[.int .i64 64] w fun e w' => ∃ T2, e = .returned (.pointer (some ⟨T2, 0, none⟩)) ∧ Tab2 w0 w' T1 T2 64 i1 [] := by
 obtain ⟨v, hv⟩ := h.tab
 refine (tabNew_any w0.heap.size 64 w h.b.size (by omega) (by omega)).mono ?_
 rintro e w' ⟨rfl, h1, hb'⟩
 have hl := hv.lt
 have ho := hv.own.lt
 exact ⟨_, rfl, ⟨v, _, hv.below hb', h1, by omega, fun e => by have := (ho _ e).2; omega, by simp [Value.ownBlock], fun g _ => by simp [Value.ownBlock]⟩, h.b.trans (hb'.mono h.b.size), h.up, List.Pairwise.nil, h.le, by simp, by omega⟩
theorem tab2_put {w0 w : World} {T1 T2 : Nat} {most : Int} {i1 i2 i' : List ItV} (h : Tab2 w0 w T1 T2 most i1 i2) (lo hi : Nat) (a b : Bool) (n c : Int) (hl : lo < 2 ^ 64) (hh : hi < 2 ^ 64) (hp : Hid (putI i1 most (canonS lo hi a b) n = (c, i'))) :
  Calls Tryz.prog 112 #[.pointer (some ⟨T1, 0, none⟩), .agg #[.float .f64 lo, .float .f64 hi, .bool a, .bool b], .int .i64 n] w fun e w' => e = .returned (.int .i64 c) ∧ Tab2 w0 w' T1 T2 most i' i2 := by
 obtain ⟨v1, v2, h1, h2, h3, h4, h5, h6⟩ := h.tab
 have k1 := putI_rises h.up1 most lo hi a b n
 have k2 := putI_le h.le1 (canonS lo hi a b) n
 refine (tabPut_any h1 h.b.size h.up1 lo hi a b hl hh n h.le1 h.m64).mono ?_
 rintro e w' ⟨v', rfl, k3, k4⟩
 rw [hp.out] at k1 k2 k3 ⊢
 have hl2 := h2.lt
 have ho2 := h2.own.lt
 refine ⟨rfl, ⟨v', v2, k3, k4.tab h3 h4 h5 h6 h2, h3, ?_, h5, ?_⟩, k4.b h1.low (fun g e => (h1.own.lt g e).1) h.b, k1, h.up2, k2, h.le2, h.m64⟩
 ·rcases k4.own with e | e | ⟨g, e, hg⟩
  ·rw [e]; exact h4
  ·rw [e]; simp
  ·rw [e]; intro e'; cases e'; omega
 ·intro g' e'
  rcases k4.own with e | e | ⟨g, e, hg⟩
  ·rw [e] at e'; exact h6 g' e'
  ·rw [e] at e'; cases e'
  ·rw [e] at e'; cases e'
   intro e2; have := (ho2 _ e2).2; omega
theorem tab2_put2 {w0 w : World} {T1 T2 : Nat} {most : Int} {i1 i2 i' : List ItV} (h : Tab2 w0 w T1 T2 most i1 i2) (lo hi : Nat) (a b : Bool) (n c : Int) (hl : lo < 2 ^ 64) (hh : hi < 2 ^ 64) (hp : Hid (putI i2 most (canonS lo hi a b) n = (c, i'))) :
  Calls Tryz.prog 112 #[.pointer (some ⟨T2, 0, none⟩), .agg #[.float .f64 lo, .float .f64 hi, .bool a, .bool b], .int .i64 n] w fun e w' => e = .returned (.int .i64 c) ∧ Tab2 w0 w' T1 T2 most i1 i' :=
 (tab2_put h.swap lo hi a b n c hl hh hp).mono fun _ _ ⟨h1, h2⟩ => ⟨h1, h2.swap⟩
theorem tab2_put_f {w0 w1 w : World} {T1 T2 : Nat} {most : Int} {i1 i2 i' : List ItV} (h' : Tab2 w0 w1 T1 T2 most i1 i2) (hb : Below w1.heap.size w1 w) (lo hi : Nat) (a b : Bool) (n c : Int) (hl : lo < 2 ^ 64) (hh : hi < 2 ^ 64) (hp : Hid (putI i1 most (canonS lo hi a b) n = (c, i'))) :
  Calls Tryz.prog 112 #[.pointer (some ⟨T1, 0, none⟩), .agg #[.float .f64 lo, .float .f64 hi, .bool a, .bool b], .int .i64 n] w fun e w' => e = .returned (.int .i64 c) ∧ Tab2 w0 w' T1 T2 most i' i2 ∧ w.heap.size ≤ w'.heap.size ∧ ∀ p : Addr, w1.heap.size ≤ p.block → p.block < w.heap.size → w'.cell? p = w.cell? p := by
 have h := h'.below hb
 obtain ⟨v1, v2, g1, g2, h3, h4, h5, h6⟩ := h'.tab
 have h1 := g1.below hb
 have h2 := g2.below hb
 have k1 := putI_rises h.up1 most lo hi a b n
 have k2 := putI_le h.le1 (canonS lo hi a b) n
 refine (tabPut_any h1 h.b.size h.up1 lo hi a b hl hh n h.le1 h.m64).mono ?_
 rintro e w' ⟨v', rfl, k3, k4⟩
 rw [hp.out] at k1 k2 k3 ⊢
 have hl1 := g1.lt
 have hl2 := h2.lt
 have ho1 := g1.own.lt
 have ho2 := h2.own.lt
 refine ⟨rfl, ⟨⟨v', v2, k3, k4.tab h3 h4 h5 h6 h2, h3, ?_, h5, ?_⟩, k4.b h1.low (fun g e => (h1.own.lt g e).1) h.b, k1, h.up2, k2, h.le2, h.m64⟩, k4.size, fun p hp1 hp2 => ?_⟩
 ·rcases k4.own with e | e | ⟨g, e, hg⟩
  ·rw [e]; exact h4
  ·rw [e]; simp
  ·rw [e]; intro e'; cases e'; omega
 ·intro g' e'
  rcases k4.own with e | e | ⟨g, e, hg⟩
  ·rw [e] at e'; exact h6 g' e'
  ·rw [e] at e'; cases e'
  ·rw [e] at e'; cases e'
   intro e2; have := (ho2 _ e2).2; omega
 ·have := k4.block p.block hp2 (by omega) (fun e => by have := (ho1 _ e.symm).2; omega)
  unfold World.cell?
  rw [this]
end Go.Proofs.YtfbachckdadhoaaGreat.Q
namespace Go.Proofs.YtfbachckdadhoaaGreat.Q
set_option linter.unusedVariables false
open Go.RowKit Fl

def ra : Rg := canonS 4607182418800017408 4613937818241073152 false true
def rb : Rg := canonS 4611686018427387904 4616189618054758400 false false
def ia : ItV := ⟨keyR ra, 5⟩
def ib : ItV := ⟨keyR rb, 3⟩

theorem alv1 : putI [] 9 (canonS 4607182418800017408 4613937818241073152 false true) 5 = (0, [ia]) := by kernel_rfl
theorem alv2 : putI [ia] 9 (canonS 4611686018427387904 4616189618054758400 false false) 3 = (0, [ia, ib]) := by kernel_rfl
theorem alv3 : atI [ia, ib] 4607182418800017408 = 5 := by kernel_rfl
theorem alv4 : atI [ia, ib] 4611686018427387904 = 5 := by kernel_rfl
theorem alv5 : atI [ia, ib] 4613937818241073152 = 3 := by kernel_rfl
theorem alv6 : atI [ia, ib] 4617315517961601024 = 0 := by kernel_rfl
theorem alv7 : kept 3 [ia, ib] = [ia] := by kernel_rfl
theorem alv8 : (([ia, ib].length : Int) - [ia].length = 1) := rfl
theorem alv9 : (([ia, ib].length : Int) = 2) := rfl

end Go.Proofs.YtfbachckdadhoaaGreat.Q
namespace Go.Proofs.YtfbachckdadhoaaGreat.Q
set_option linter.unusedVariables false
open Go.RowKit Fl

structure OpV where
 kind : Int
 lo : Nat
 hi : Nat
 a : Bool
 b : Bool
 n : Int
instance : Inhabited OpV := ⟨⟨0, 0, 0, false, false, 0⟩⟩
def OpV.rg (o : OpV) : Rg := canonS o.lo o.hi o.a o.b
theorem OpV.ok (o : OpV) : okR o.rg := okR_canon _ _ _ _

structure OAt (w : World) (a : Option Addr) (ops : List OpV) : Prop where
 row : ops = [] ∨ ∃ b o, a = some ⟨b, o, none⟩ ∧ b < w.heap.size ∧ ∀ i, i < ops.length → w.cell? ⟨b, o + i * 6, none⟩ = some (.int .i64 (ops[i]?.getD default).kind) ∧ w.cell? ⟨b, o + i * 6 + 1, none⟩ = some (.float .f64 (ops[i]?.getD default).lo) ∧ w.cell? ⟨b, o + i * 6 + 2, none⟩ = some (.float .f64 (ops[i]?.getD default).hi) ∧
  w.cell? ⟨b, o + i * 6 + 3, none⟩ = some (.bool (ops[i]?.getD default).a) ∧ w.cell? ⟨b, o + i * 6 + 4, none⟩ = some (.bool (ops[i]?.getD default).b) ∧ w.cell? ⟨b, o + i * 6 + 5, none⟩ = some (.int .i64 (ops[i]?.getD default).n)
 lt : ∀ i, i < ops.length → (ops[i]?.getD default).lo < 2 ^ 64 ∧ (ops[i]?.getD default).hi < 2 ^ 64
 len : ops.length ≤ maxLen
theorem op_some {ops : List OpV} {k : Nat} (h : k < ops.length) : ops[k]? = some (ops[k]?.getD default) := by rw [List.getElem?_eq_getElem h]; rfl

def putAll (its : List ItV) (most : Int) (ops : List OpV) : List ItV := ops.foldl (fun its o => (putI its most o.rg o.n).2) its
theorem putAll_snoc (its : List ItV) (most : Int) {ops : List OpV} {i : Nat} {o : OpV} (h : ops[i]? = some o) : putAll its most (ops.take (i + 1)) = (putI (putAll its most (ops.take i)) most o.rg o.n).2 := by
 unfold putAll
 rw [List.take_add_one, h, List.foldl_append]
 rfl

def numI (its : List ItV) (kb : Rg) : Int := if plcB its kb = true then (its[plcI its kb]?.getD default).n else 0
theorem plc_of_mem {its : List ItV} (hr : rises its) {i : Nat} {x : ItV} (hx : its[i]? = some x) {kb : Rg} (hk : codeR kb = codeR x.k.rg) : plcI its kb = i ∧ plcB its kb = true := by
 obtain ⟨h1, h2⟩ := List.getElem?_eq_some_iff.1 hx
 have hp : plcI its kb = i := by
  unfold plcI
  rw [List.findIdx_eq h1]
  refine ⟨by rw [h2]; simp [hk], fun j hj => ?_⟩
  have h3 := (List.pairwise_iff_getElem.1 hr) j i (by omega) h1 hj
  rw [h2] at h3
  rw [hk]
  simpa using h3
 refine ⟨hp, ?_⟩
 unfold plcB
 rw [hp, hx]
 simp [hk]
theorem numI_of {its : List ItV} (hr : rises its) {x : ItV} (hx : x ∈ its) {kb : Rg} (hk : codeR kb = codeR x.k.rg) : numI its kb = x.n := by
 obtain ⟨i, hi, rfl⟩ := List.getElem_of_mem hx
 obtain ⟨h1, h2⟩ := plc_of_mem hr (List.getElem?_eq_getElem hi) hk
 unfold numI
 rw [if_pos h2, h1, List.getElem?_eq_getElem hi]
 rfl
theorem numI_mem {its : List ItV} (hr : rises its) {x : ItV} (hx : x ∈ its) : numI its x.k.rg = x.n := numI_of hr hx rfl
theorem numI_not {its : List ItV} {kb : Rg} (h : ∀ x ∈ its, codeR x.k.rg ≠ codeR kb) : numI its kb = 0 := by
 unfold numI
 rw [if_neg]
 intro hq
 have hp := plcB_lt hq
 unfold plcB at hq
 rw [List.getElem?_eq_getElem hp] at hq
 exact h _ (List.getElem_mem hp) (by simpa using hq)
theorem rises_inj {its : List ItV} (hr : rises its) {x y : ItV} (hx : x ∈ its) (hy : y ∈ its) (h : codeR x.k.rg = codeR y.k.rg) : x = y := by
 obtain ⟨i, hi, rfl⟩ := List.getElem_of_mem hx
 obtain ⟨j, hj, rfl⟩ := List.getElem_of_mem hy
 have h1 := (plc_of_mem hr (List.getElem?_eq_getElem hi) (kb := its[i].k.rg) rfl).1
 have h2 := (plc_of_mem hr (List.getElem?_eq_getElem hj) (kb := its[i].k.rg) h).1
 have : i = j := by omega
 subst this; rfl
theorem numI_kept {its : List ItV} (hr : rises its) (m : Int) {x : ItV} (hx : x ∈ its) : numI (kept m its) x.k.rg = if m < x.n then x.n else 0 := by
 split
 ·rename_i h
  refine numI_mem (kept_rises hr m) ?_
  unfold kept
  exact List.mem_filter.2 ⟨hx, by simp; exact h⟩
 ·rename_i h
  refine numI_not fun y hy e => ?_
  unfold kept at hy
  obtain ⟨h1, h2⟩ := List.mem_filter.1 hy
  have := rises_inj hr h1 hx e
  subst this
  simp at h2; omega
theorem it_mem {its : List ItV} {i : Nat} {x : ItV} (h : its[i]? = some x) : x ∈ its := List.mem_of_getElem? h

theorem Upd.row {w w' : World} {T base k n : Nat} {e : TypeId} {v v' u : Value} {xs : List Value} (h : Upd w w' T v v') (hT : T < base) (hv : ∀ g, v.ownBlock = some g → g < base) (hr : w.ownsRow base e k u n xs) : w'.ownsRow base e k u n xs := by
 refine ⟨hr.1, ?_⟩
 rcases hr.2 with h1 | ⟨g, cap, cur, rfl, hbg, hg, h2⟩
 ·exact .inl h1
 ·refine .inr ⟨g, cap, cur, rfl, hbg, ?_, h2⟩
  rw [h.block g (Array.getElem?_eq_some_iff.1 hg).1 (by omega) (fun e => by have := hv g e.symm; omega)]
  exact hg
def pos (its : List ItV) : Prop := ∀ x ∈ its, 1 ≤ x.n
theorem pos_nil : pos [] := fun _ h => absurd h (by simp)
theorem putI_pos {its : List ItV} (h : pos its) (most : Int) (kb : Rg) (n : Int) : pos (putI its most kb n).2 := by
 unfold putI
 split
 ·exact h
 ·split
  ·exact h
  ·rename_i h1
   split
   ·intro x hx
    rcases List.mem_or_eq_of_mem_set hx with h2 | rfl
    ·exact h x h2
    ·show 1 ≤ max _ n; omega
   ·split
    ·exact h
    ·intro x hx
     simp only [List.mem_append, List.mem_singleton] at hx
     rcases hx with (h2 | rfl) | h2
     ·exact h x (List.mem_of_mem_take h2)
     ·show 1 ≤ n; omega
     ·exact h x (List.mem_of_mem_drop h2)
theorem putAll_pos {its : List ItV} (h : pos its) (most : Int) : ∀ ops : List OpV, pos (putAll its most ops)
 | [] => h
 | o :: ops => putAll_pos (putI_pos h most o.rg o.n) most ops
theorem putI_risesK {its : List ItV} (hr : rises its) (most : Int) {kb : Rg} (ok : okR kb) (n : Int) : rises (putI its most kb n).2 := by
 have := putI_rises hr most (slo kb) (shi kb) (sop kb) (sop kb) n
 rwa [canonS_gen ok] at this
theorem putAll_rises {its : List ItV} (h : rises its) (most : Int) : ∀ ops : List OpV, rises (putAll its most ops)
 | [] => h
 | o :: ops => putAll_rises (putI_risesK h most o.ok o.n) most ops

theorem code_key {kb : Rg} {k : RK} (ok : okR kb) (h : codeR k.rg = codeR kb) : kb ≠ none ∧ k = keyR kb := by
 have hn : kb ≠ none := by
  rintro rfl
  have := codeR_none k.lo k.hi
  have e : codeR k.rg = codeR (some (k.lo, k.hi)) := rfl
  omega
 refine ⟨hn, rk_inj ?_⟩
 rw [keyR_rg ok hn]; exact h
theorem key_code {kb : Rg} (ok : okR kb) (hn : kb ≠ none) : codeR (keyR kb).rg = codeR kb := by rw [keyR_rg ok hn]
theorem plc_false {its : List ItV} (hr : rises its) {kb : Rg} (hq : plcB its kb = false) {x : ItV} (hx : x ∈ its) : codeR x.k.rg ≠ codeR kb := by
 obtain ⟨i, hi, rfl⟩ := List.getElem_of_mem hx
 rcases Nat.lt_or_ge i (plcI its kb) with h | h
 ·exact Int.ne_of_lt (plc_before h (List.getElem?_eq_getElem hi))
 ·exact (Int.ne_of_lt (plc_miss hr hq h (List.getElem?_eq_getElem hi))).symm
theorem plc_true {its : List ItV} {kb : Rg} (hq : plcB its kb = true) : ∃ h : plcI its kb < its.length, codeR (its[plcI its kb]'h).k.rg = codeR kb := by
 have hp := plcB_lt hq
 refine ⟨hp, ?_⟩
 unfold plcB at hq
 rw [List.getElem?_eq_getElem hp] at hq
 simpa using hq
theorem numI_char {its : List ItV} (kb : Rg) : (∃ x ∈ its, codeR x.k.rg = codeR kb ∧ numI its kb = x.n) ∨ numI its kb = 0 := by
 cases hq : plcB its kb
 ·exact .inr (by simp [numI, hq])
 ·obtain ⟨hp, h⟩ := plc_true hq
  exact .inl ⟨_, List.getElem_mem hp, h, by simp [numI, hq, List.getElem?_eq_getElem hp]⟩

theorem take_drop_mem {its : List ItV} (p : Nat) (x : ItV) : x ∈ its ↔ x ∈ its.take p ∨ x ∈ its.drop p := by
 rw [← List.mem_append, List.take_append_drop]

theorem mem_putI {its : List ItV} (hr : rises its) (hp : pos its) (most : Int) (kb : Rg) (ok : okR kb) (n : Int) (h0 : (putI its most kb n).1 = 0) :
  kb ≠ none ∧ 1 ≤ n ∧ n ≤ 1099511627776 ∧ ∀ x : ItV, x ∈ (putI its most kb n).2 ↔ (x ∈ its ∧ x.k ≠ keyR kb) ∨ (x.k = keyR kb ∧ x.n = max (numI its kb) n) := by
 unfold putI at h0 ⊢
 by_cases h1 : kb = none
 ·rw [if_pos h1] at h0; simp at h0
 ·have h1' : kb ≠ none := h1
  rw [if_neg h1] at h0 ⊢
  by_cases h2 : n < 1 ∨ 1099511627776 < n
  ·rw [if_pos h2] at h0; simp at h0
  ·rw [if_neg h2] at h0 ⊢
   refine ⟨h1', by omega, by omega, fun x => ?_⟩
   by_cases h3 : plcB its kb = true
   ·rw [if_pos h3]
    obtain ⟨hpl, hk⟩ := plc_true h3
    have hk' := (code_key ok hk).2
    have hat : numI its kb = its[plcI its kb].n := by simp [numI, h3, List.getElem?_eq_getElem hpl]
    rw [hat]
    simp only [List.getElem?_eq_getElem hpl, Option.getD_some]
    generalize plcI its kb = p at *
    constructor
    ·intro hx
     obtain ⟨i, hi, rfl⟩ := List.getElem_of_mem hx
     rw [List.getElem_set]
     split
     ·exact .inr ⟨hk', rfl⟩
     ·rename_i hne
      have hi' : i < its.length := by simpa using hi
      refine .inl ⟨List.getElem_mem hi', fun e => hne ?_⟩
      have e1 := (plc_of_mem hr (List.getElem?_eq_getElem hi') (kb := its[i].k.rg) rfl).1
      have e2 := (plc_of_mem hr (List.getElem?_eq_getElem hpl) (kb := its[i].k.rg) (by rw [e, hk'])).1
      omega
    ·rintro (⟨hx, hne⟩ | ⟨e1, e2⟩)
     ·obtain ⟨i, hi, rfl⟩ := List.getElem_of_mem hx
      have hip : p ≠ i := fun e => hne (by subst e; exact hk')
      have : (its.set p ⟨its[p].k, max its[p].n n⟩)[i]'(by simpa using hi) = its[i] := by rw [List.getElem_set, if_neg hip]
      rw [← this]; exact List.getElem_mem _
     ·have : x = ⟨its[p].k, max its[p].n n⟩ := by
       cases x; simp only [ItV.mk.injEq]; exact ⟨by rw [hk']; exact e1, e2⟩
      rw [this]
      exact List.mem_set hpl _
   ·have h3' : plcB its kb = false := by simpa using h3
    rw [if_neg h3] at h0 ⊢
    by_cases h4 : (its.length : Int) = most
    ·rw [if_pos h4] at h0; simp at h0
    ·rw [if_neg h4]
     have hat : numI its kb = 0 := by simp [numI, h3']
     rw [hat]
     simp only [List.mem_append, List.mem_singleton]
     have hno : ∀ y ∈ its, y.k ≠ keyR kb := fun y hy e => plc_false hr h3' hy (by rw [e]; exact key_code ok h1')
     have htd := take_drop_mem (its := its) (plcI its kb) x
     constructor
     ·rintro ((h | rfl) | h)
      ·exact .inl ⟨htd.2 (.inl h), hno x (htd.2 (.inl h))⟩
      ·exact .inr ⟨rfl, by show n = max 0 n; omega⟩
      ·exact .inl ⟨htd.2 (.inr h), hno x (htd.2 (.inr h))⟩
     ·rintro (⟨h, _⟩ | ⟨e1, e2⟩)
      ·rcases htd.1 h with h' | h'
       ·exact .inl (.inl h')
       ·exact .inr h'
      ·refine .inl (.inr ?_)
       cases x; simp only [ItV.mk.injEq] at *; exact ⟨e1, by omega⟩
theorem putI_same {its : List ItV} {most : Int} {kb : Rg} {n : Int} (h0 : (putI its most kb n).1 ≠ 0) : (putI its most kb n).2 = its := by
 unfold putI at *
 split
 ·rfl
 ·rename_i h1
  rw [if_neg h1] at h0
  split
  ·rfl
  ·rename_i h2
   rw [if_neg h2] at h0
   split
   ·rename_i h3; rw [if_pos h3] at h0; exact absurd rfl h0
   ·rename_i h3
    rw [if_neg h3] at h0
    split
    ·rfl
    ·rename_i h4; rw [if_neg h4] at h0; exact absurd rfl h0

def dom (its its' : List ItV) : Prop := ∀ x ∈ its, ∃ y ∈ its', y.k = x.k ∧ x.n ≤ y.n
theorem putI_dom {its : List ItV} (hr : rises its) (hp : pos its) (most : Int) (kb : Rg) (ok : okR kb) (n : Int) : dom its (putI its most kb n).2 := by
 by_cases h0 : (putI its most kb n).1 = 0
 ·obtain ⟨_, _, _, hm⟩ := mem_putI hr hp most kb ok n h0
  intro x hx
  by_cases hk : x.k = keyR kb
  ·refine ⟨⟨keyR kb, max (numI its kb) n⟩, (hm _).2 (.inr ⟨rfl, rfl⟩), hk.symm, ?_⟩
   have := numI_of hr hx (kb := kb) (by rw [hk, key_code ok (by assumption)])
   show x.n ≤ max _ _; omega
  ·exact ⟨x, (hm x).2 (.inl ⟨hx, hk⟩), rfl, Int.le_refl _⟩
 ·rw [putI_same h0]; exact fun x hx => ⟨x, hx, rfl, Int.le_refl _⟩
theorem numI_nonneg {its : List ItV} (hp : pos its) (kb : Rg) : 0 ≤ numI its kb := by
 rcases numI_char (its := its) kb with ⟨x, hx, _, h⟩ | h
 ·have := hp x hx; omega
 ·omega
theorem dom_at {its its' : List ItV} (hr' : rises its') (hp' : pos its') (h : dom its its') (kb : Rg) : numI its kb ≤ numI its' kb := by
 rcases numI_char (its := its) kb with ⟨x, hx, hk, e⟩ | e
 ·obtain ⟨y, hy, h1, h2⟩ := h x hx
  have := numI_of hr' hy (kb := kb) (by rw [h1]; exact hk.symm)
  omega
 ·have := numI_nonneg hp' kb; omega
theorem putI_num {its : List ItV} (hr : rises its) (hp : pos its) (most : Int) (kb : Rg) (ok : okR kb) (n : Int) (h0 : (putI its most kb n).1 = 0) : n ≤ numI (putI its most kb n).2 kb := by
 obtain ⟨hn, _, _, hm⟩ := mem_putI hr hp most kb ok n h0
 have := numI_of (putI_risesK hr most ok n) ((hm ⟨keyR kb, max (numI its kb) n⟩).2 (.inr ⟨rfl, rfl⟩)) (kb := kb) (key_code ok hn).symm
 rw [this]
 show n ≤ max _ _; omega

theorem rises_ext : ∀ {l l' : List ItV}, rises l → rises l' → (∀ x, x ∈ l ↔ x ∈ l') → l = l'
 | [], [], _, _, _ => rfl
 | [], y :: t', _, _, h => absurd ((h y).2 (by simp)) (by simp)
 | x :: t, [], _, _, h => absurd ((h x).1 (by simp)) (by simp)
 | x :: t, y :: t', h1, h2, h => by
  obtain ⟨a1, b1⟩ := List.pairwise_cons.1 h1
  obtain ⟨a2, b2⟩ := List.pairwise_cons.1 h2
  have e : x = y := by
   rcases List.mem_cons.1 ((h x).1 (by simp)) with e | e
   ·exact e
   ·rcases List.mem_cons.1 ((h y).2 (by simp)) with e' | e'
    ·exact e'.symm
    ·have := a1 y e'; have := a2 x e; omega
  subst e
  congr 1
  refine rises_ext b1 b2 fun z => ⟨fun hz => ?_, fun hz => ?_⟩
  ·rcases List.mem_cons.1 ((h z).1 (by simp [hz])) with e | e
   ·subst e; have := a1 z hz; omega
   ·exact e
  ·rcases List.mem_cons.1 ((h z).2 (by simp [hz])) with e | e
   ·subst e; have := a2 z hz; omega
   ·exact e

instance rkDec : DecidableEq RK := fun a b => decidable_of_iff (codeR a.rg = codeR b.rg) ⟨rk_inj, fun h => by rw [h]⟩
def good (o : OpV) : Bool := !decide (o.rg = none) && decide (1 ≤ o.n) && decide (o.n ≤ 1099511627776)
def bestF (k : RK) (m : Int) (o : OpV) : Int := if good o = true ∧ keyR o.rg = k then max m o.n else m
def best (ops : List OpV) (k : RK) : Int := ops.foldl (bestF k) 0
theorem best_snoc (ops : List OpV) (o : OpV) (k : RK) : best (ops ++ [o]) k = bestF k (best ops k) o := by simp [best, List.foldl_append]
theorem best_rev (ops : List OpV) (k : RK) : best ops.reverse k = best ops k := by
 unfold best
 refine List.Perm.foldl_eq' (List.reverse_perm ops) (fun x _ y _ z => ?_) 0
 unfold bestF
 split <;> split <;> omega
theorem best_nonneg (k : RK) : ∀ (ops : List OpV) (m : Int), m ≤ ops.foldl (bestF k) m
 | [], m => Int.le_refl _
 | o :: ops, m => by
  rw [List.foldl_cons]
  refine Int.le_trans ?_ (best_nonneg k ops _)
  unfold bestF; split <;> omega
def isOf (its : List ItV) (ops : List OpV) : Prop := ∀ x : ItV, x ∈ its ↔ 1 ≤ x.n ∧ best ops x.k = x.n
theorem isOf_at {its : List ItV} {ops : List OpV} (hr : rises its) (h : isOf its ops) {kb : Rg} (ok : okR kb) (hn : kb ≠ none) : numI its kb = best ops (keyR kb) := by
 by_cases hb : 1 ≤ best ops (keyR kb)
 ·exact numI_of hr ((h ⟨keyR kb, best ops (keyR kb)⟩).2 ⟨hb, rfl⟩) (key_code ok hn).symm
 ·have h0 := best_nonneg (keyR kb) ops 0
  have : best ops (keyR kb) = 0 := by unfold best at *; omega
  rw [this]
  refine numI_not fun x hx e => ?_
  obtain ⟨h1, h2⟩ := (h x).1 hx
  rw [(code_key ok e).2] at h2
  omega
theorem putI_good {its : List ItV} {most : Int} {o : OpV} (hl : (its.length : Int) < most) : (putI its most o.rg o.n).1 = 0 ↔ good o = true := by
 unfold putI good
 by_cases h1 : o.rg = none
 ·rw [if_pos h1]; simp [h1]
 ·rw [if_neg h1]
  by_cases h2 : o.n < 1 ∨ 1099511627776 < o.n
  ·rw [if_pos h2]; simp [h1]; omega
  ·rw [if_neg h2]
   have : good o = true := by unfold good; simp [h1]; omega
   unfold good at this
   rw [this]
   split
   ·simp
   ·rw [if_neg (by omega)]; simp
theorem isOf_put {its : List ItV} {ops : List OpV} (hr : rises its) (hp : pos its) (h : isOf its ops) (most : Int) (o : OpV) (hl : (its.length : Int) < most) : isOf (putI its most o.rg o.n).2 (ops ++ [o]) := by
 by_cases hg : good o = true
 ·obtain ⟨hn, h1, h2, hm⟩ := mem_putI hr hp most o.rg o.ok o.n ((putI_good hl).2 hg)
  intro x
  rw [hm, best_snoc]
  by_cases hk : keyR o.rg = x.k
  ·have e : bestF x.k (best ops x.k) o = max (best ops x.k) o.n := by unfold bestF; rw [if_pos ⟨hg, hk⟩]
   rw [e, isOf_at hr h o.ok hn, hk]
   constructor
   ·rintro (⟨_, h3⟩ | ⟨_, h3⟩)
    ·exact absurd rfl h3
    ·omega
   ·rintro ⟨h3, h4⟩
    exact .inr ⟨rfl, h4.symm⟩
  ·have e : bestF x.k (best ops x.k) o = best ops x.k := by unfold bestF; rw [if_neg fun h' => hk h'.2]
   rw [e, ← h x]
   constructor
   ·rintro (⟨h3, _⟩ | ⟨h3, _⟩)
    ·exact h3
    ·exact absurd h3.symm hk
   ·exact fun h3 => .inl ⟨h3, fun e => hk e.symm⟩
 ·have hs : (putI its most o.rg o.n).2 = its := putI_same fun e => hg ((putI_good hl).1 e)
  intro x
  rw [hs, best_snoc, h x]
  have : bestF x.k (best ops x.k) o = best ops x.k := by unfold bestF; rw [if_neg fun h' => hg h'.1]
  rw [this]
theorem putI_len (its : List ItV) (most : Int) (kb : Rg) (n : Int) : (putI its most kb n).2.length ≤ its.length + 1 := by
 unfold putI
 split
 ·simp
 ·split
  ·simp
  ·split
   ·simp
   ·split
    ·simp
    ·have := plcI_le its kb
     simp; omega
theorem putAll_len (most : Int) : ∀ (ops : List OpV) (its : List ItV), (putAll its most ops).length ≤ its.length + ops.length
 | [], its => by simp [putAll]
 | o :: ops, its => by
  have h1 := putAll_len most ops (putI its most o.rg o.n).2
  have h2 := putI_len its most o.rg o.n
  show (putAll (putI its most o.rg o.n).2 most ops).length ≤ _
  simp only [List.length_cons]; omega
theorem putAll_isOf (most : Int) (ops : List OpV) (hl : (ops.length : Int) ≤ most) : ∀ i, i ≤ ops.length → isOf (putAll [] most (ops.take i)) (ops.take i)
 | 0, _ => by intro x; simp [putAll, best]; omega
 | i + 1, hi => by
  have ih := putAll_isOf most ops hl i (by omega)
  have hx : ops[i]? = some (ops[i]'(by omega)) := List.getElem?_eq_getElem (by omega)
  rw [putAll_snoc [] most hx, List.take_add_one, hx]
  refine isOf_put (putAll_rises List.Pairwise.nil most _) (putAll_pos pos_nil most _) ih most _ ?_
  have h1 := putAll_len most (ops.take i) []
  simp at h1; omega
theorem putAll_rev (most : Int) (ops : List OpV) (hl : (ops.length : Int) ≤ most) : putAll [] most ops.reverse = putAll [] most ops := by
 have h1 := putAll_isOf most ops hl ops.length (Nat.le_refl _)
 have h2 := putAll_isOf most ops.reverse (by simpa using hl) ops.reverse.length (Nat.le_refl _)
 rw [List.take_length] at h1 h2
 refine rises_ext (putAll_rises List.Pairwise.nil most _) (putAll_rises List.Pairwise.nil most _) fun x => ?_
 rw [h1 x, h2 x, best_rev]
end Go.Proofs.YtfbachckdadhoaaGreat.Q
namespace Go.Proofs.YtfbachckdadhoaaGreat.Q
set_option linter.unusedVariables false
open Go.RowKit Fl

theorem at_from (key : Nat) : ∀ (its : List ItV) (m : Int), m ≤ its.foldl (fun m x => if hasB x.k.rg key = true then max m x.n else m) m
 | [], m => Int.le_refl _
 | x :: its, m => by
  rw [List.foldl_cons]
  refine Int.le_trans ?_ (at_from key its _)
  split <;> omega
theorem at_ge_from (key : Nat) (its : List ItV) : ∀ (m : Int) (x : ItV), x ∈ its → hasB x.k.rg key = true → x.n ≤ its.foldl (fun m x => if hasB x.k.rg key = true then max m x.n else m) m := by
 induction its with
 | nil => intro m x hx; cases hx
 | cons y its ih =>
  intro m x hx hb
  rw [List.foldl_cons]
  rcases List.mem_cons.1 hx with rfl | hx
  ·refine Int.le_trans ?_ (at_from key its _)
   rw [if_pos hb]; omega
  ·exact ih _ x hx hb
theorem at_ge {its : List ItV} {x : ItV} {key : Nat} (hx : x ∈ its) (hb : hasB x.k.rg key = true) : x.n ≤ atI its key := at_ge_from key its 0 x hx hb
theorem atI_nonneg (its : List ItV) (key : Nat) : 0 ≤ atI its key := at_from key its 0
theorem at_char_from (key : Nat) : ∀ (its : List ItV) (m : Int), its.foldl (fun m x => if hasB x.k.rg key = true then max m x.n else m) m = m ∨ ∃ x ∈ its, hasB x.k.rg key = true ∧ its.foldl (fun m x => if hasB x.k.rg key = true then max m x.n else m) m = x.n
 | [], m => .inl rfl
 | y :: its, m => by
  rw [List.foldl_cons]
  rcases at_char_from key its (if hasB y.k.rg key = true then max m y.n else m) with e | ⟨x, hx, hb, e⟩
  ·rw [e]
   by_cases hb : hasB y.k.rg key = true
   ·rw [if_pos hb]
    by_cases h : m ≤ y.n
    ·exact .inr ⟨y, by simp, hb, by omega⟩
    ·exact .inl (by omega)
   ·rw [if_neg hb]; exact .inl rfl
  ·exact .inr ⟨x, by simp [hx], hb, e⟩
theorem at_char (its : List ItV) (key : Nat) : atI its key = 0 ∨ ∃ x ∈ its, hasB x.k.rg key = true ∧ atI its key = x.n := at_char_from key its 0
theorem dom_atK {its its' : List ItV} (h : dom its its') (key : Nat) : atI its key ≤ atI its' key := by
 rcases at_char its key with e | ⟨x, hx, hb, e⟩
 ·rw [e]; exact atI_nonneg _ _
 ·obtain ⟨y, hy, h1, h2⟩ := h x hx
  have := at_ge hy (key := key) (by rw [h1]; exact hb)
  omega
theorem putI_at {its : List ItV} (hr : rises its) (hp : pos its) (most : Int) (kb : Rg) (ok : okR kb) (n : Int) (h0 : (putI its most kb n).1 = 0) {key : Nat} (hb : hasB kb key = true) : n ≤ atI (putI its most kb n).2 key := by
 obtain ⟨hn, _, _, hm⟩ := mem_putI hr hp most kb ok n h0
 have := at_ge ((hm ⟨keyR kb, max (numI its kb) n⟩).2 (.inr ⟨rfl, rfl⟩)) (key := key) (by show hasB (keyR kb).rg key = true; rw [keyR_rg ok hn]; exact hb)
 refine Int.le_trans ?_ this
 show n ≤ max _ _; omega
theorem at_kept_snoc (m : Int) {its : List ItV} {t : Nat} {x : ItV} (hx : its[t]? = some x) (key : Nat) : atI (kept m (its.take (t + 1))) key = if m < x.n ∧ hasB x.k.rg key = true then max (atI (kept m (its.take t)) key) x.n else atI (kept m (its.take t)) key := by
 rw [kept_snoc m hx]
 by_cases h : x.n ≤ m
 ·rw [if_pos (by simpa using h), List.append_nil, if_neg (fun h' => by omega)]
 ·rw [if_neg (by simpa using h), atI_snoc]
  by_cases hb : hasB x.k.rg key = true
  ·rw [if_pos hb, if_pos ⟨by omega, hb⟩]
  ·rw [if_neg hb, if_neg (fun h' => hb h'.2)]
end Go.Proofs.YtfbachckdadhoaaGreat.Q
