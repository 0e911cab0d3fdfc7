/- Several texts as one: LVA VQ VP VG. -/
import Derived.Test.YtfbachckdadhoaaGreatMVU
namespace Go.Proofs.YtfbachckdadhoaaGreat
set_option linter.unusedVariables false
open Go.RowKit Fl

def ia : ItV := ⟨kof 4607182418800017408, 5⟩
def ib : ItV := ⟨kof 4611686018427387904, 7⟩

theorem alv1 : putI [] 9 4607182418800017408 5 = (0, [ia]) := by kernel_rfl
theorem alv2 : putI [ia] 9 4607182418800017408 3 = (0, [ia]) := by kernel_rfl
theorem alv3 : putI [ia] 9 4611686018427387904 7 = (0, [ia, ib]) := by kernel_rfl
theorem alv4 : atI [ia, ib] 4607182418800017408 = 5 := by kernel_rfl
theorem alv5 : overI [ia, ib] (canonS 4607182418800017408 4611686018427387904 false true) = 5 := by kernel_rfl
theorem alv6 : overI [ia, ib] (canonS 0 4621256167635550208 false false) = 7 := by kernel_rfl
theorem alv7 : kept 5 [ia, ib] = [ib] := by kernel_rfl
theorem alv8 : (([ia, ib].length : Int) - [ib].length = 1) := rfl
theorem alv9 : (([ib].length : Int) = 1) := rfl

end Go.Proofs.YtfbachckdadhoaaGreat
namespace Go.Proofs.YtfbachckdadhoaaGreat
set_option linter.unusedVariables false
open Go.RowKit Fl

structure OpV where
 kind : Int
 key : Nat
 n : Int
instance : Inhabited OpV := ⟨⟨0, 0, 0⟩⟩

structure OAt (w : World) (a : Option Addr) (ops : List OpV) : Prop where
 row : ops = [] ∨ ∃ b o, a = some ⟨b, o, none⟩ ∧ b < w.heap.size ∧ ∀ i, i < ops.length → w.cell? ⟨b, o + i * 3, none⟩ = some (.int .i64 (ops[i]?.getD default).kind) ∧ w.cell? ⟨b, o + i * 3 + 1, none⟩ = some (.float .f64 (ops[i]?.getD default).key) ∧ w.cell? ⟨b, o + i * 3 + 2, none⟩ = some (.int .i64 (ops[i]?.getD default).n)
 lt : ∀ i, i < ops.length → (ops[i]?.getD default).key < 2 ^ 64
 len : ops.length ≤ maxLen
theorem op_some {ops : List OpV} {k : Nat} (h : k < ops.length) : ops[k]? = some (ops[k]?.getD default) := by rw [List.getElem?_eq_getElem h]; rfl

def putAll (its : List ItV) (most : Int) (ops : List OpV) : List ItV := ops.foldl (fun its o => (putI its most o.key o.n).2) its
theorem putAll_snoc (its : List ItV) (most : Int) {ops : List OpV} {i : Nat} {o : OpV} (h : ops[i]? = some o) : putAll its most (ops.take (i + 1)) = (putI (putAll its most (ops.take i)) most o.key o.n).2 := by
 unfold putAll
 rw [List.take_add_one, h, List.foldl_append]
 rfl

theorem plc_of_mem {its : List ItV} (hr : rises its) {i : Nat} {x : ItV} (hx : its[i]? = some x) {kb : Nat} (hk : codeOf kb = codeOf x.k.bits) : plcI its kb = i ∧ plcB its kb = true := by
 obtain ⟨h1, h2⟩ := List.getElem?_eq_some_iff.1 hx
 have hp : plcI its kb = i := by
  unfold plcI
  rw [List.findIdx_eq h1]
  refine ⟨by rw [h2]; simp [hk], fun j hj => ?_⟩
  have h3 := (List.pairwise_iff_getElem.1 hr) j i (by omega) h1 hj
  rw [h2] at h3
  have := (kcode_lt its[j].k x.k).2 h3
  rw [hk, codeOf_key, codeOf_key]
  simpa using this
 refine ⟨hp, ?_⟩
 unfold plcB
 rw [hp, hx]
 simp [hk]
theorem atI_of {its : List ItV} (hr : rises its) {x : ItV} (hx : x ∈ its) {kb : Nat} (hk : codeOf kb = codeOf x.k.bits) : atI its kb = x.n := by
 obtain ⟨i, hi, rfl⟩ := List.getElem_of_mem hx
 obtain ⟨h1, h2⟩ := plc_of_mem hr (List.getElem?_eq_getElem hi) hk
 unfold atI
 rw [if_pos h2, h1, List.getElem?_eq_getElem hi]
 rfl
theorem atI_mem {its : List ItV} (hr : rises its) {x : ItV} (hx : x ∈ its) : atI its x.k.bits = x.n := atI_of hr hx rfl
theorem atI_not {its : List ItV} {kb : Nat} (h : ∀ x ∈ its, codeOf x.k.bits ≠ codeOf kb) : atI its kb = 0 := by
 unfold atI
 rw [if_neg]
 intro hq
 have hp := plcB_lt hq
 unfold plcB at hq
 rw [List.getElem?_eq_getElem hp] at hq
 exact h _ (List.getElem_mem hp) (by simpa using hq)
theorem rises_inj {its : List ItV} (hr : rises its) {x y : ItV} (hx : x ∈ its) (hy : y ∈ its) (h : codeOf x.k.bits = codeOf y.k.bits) : x = y := by
 obtain ⟨i, hi, rfl⟩ := List.getElem_of_mem hx
 obtain ⟨j, hj, rfl⟩ := List.getElem_of_mem hy
 have h1 := (plc_of_mem hr (List.getElem?_eq_getElem hi) (kb := its[i].k.bits) rfl).1
 have h2 := (plc_of_mem hr (List.getElem?_eq_getElem hj) (kb := its[i].k.bits) h).1
 have : i = j := by omega
 subst this; rfl
theorem atI_kept {its : List ItV} (hr : rises its) (m : Int) {x : ItV} (hx : x ∈ its) : atI (kept m its) x.k.bits = if m < x.n then x.n else 0 := by
 split
 ·rename_i h
  refine atI_mem (kept_rises hr m) ?_
  unfold kept
  exact List.mem_filter.2 ⟨hx, by simp; exact h⟩
 ·rename_i h
  refine atI_not fun y hy e => ?_
  unfold kept at hy
  obtain ⟨h1, h2⟩ := List.mem_filter.1 hy
  have := rises_inj hr h1 hx e
  subst this
  simp at h2; omega
theorem it_mem {its : List ItV} {i : Nat} {x : ItV} (h : its[i]? = some x) : x ∈ its := List.mem_of_getElem? h

theorem Upd.row {w w' : World} {T base k n : Nat} {e : TypeId} {v v' u : Value} {xs : List Value} (h : Upd w w' T v v') (hT : T < base) (hv : ∀ g, v.ownBlock = some g → g < base) (hr : w.ownsRow base e k u n xs) : w'.ownsRow base e k u n xs := by
 refine ⟨hr.1, ?_⟩
 rcases hr.2 with h1 | ⟨g, cap, cur, rfl, hbg, hg, h2⟩
 ·exact .inl h1
 ·refine .inr ⟨g, cap, cur, rfl, hbg, ?_, h2⟩
  rw [h.block g (Array.getElem?_eq_some_iff.1 hg).1 (by omega) (fun e => by have := hv g e.symm; omega)]
  exact hg
theorem own_at {w : World} {B c : Nat} {va : Option Addr} {its : List ItV} (h : w.ownsRow B 125 2 (.slice va its.length c) its.length (itCells its)) (h0 : 0 < its.length) :
  ∃ g, va = some ⟨g, 0, none⟩ ∧ g < w.heap.size ∧ ∀ i, i < its.length → w.cell? ⟨g, i * 2, none⟩ = some (.float .f64 (its[i]?.getD default).k.bits) ∧ w.cell? ⟨g, i * 2 + 1, none⟩ = some (.int .i64 (its[i]?.getD default).n) := by
 rcases h.2 with ⟨hv, h1⟩ | ⟨g, cap, cur, hv, hbg, hg, hnc, hcm, hcs, htake⟩
 ·have := itCells_len its
  rw [h1] at this; simp at this; omega
 ·obtain ⟨rfl, rfl⟩ : va = some ⟨g, 0, none⟩ ∧ c = cap := by cases hv; exact ⟨rfl, rfl⟩
  exact ⟨g, rfl, (Array.getElem?_eq_some_iff.1 hg).1, own_cells h rfl⟩
end Go.Proofs.YtfbachckdadhoaaGreat
namespace Go.Proofs.YtfbachckdadhoaaGreat
set_option linter.unusedVariables false
open Go.RowKit Fl

def pos (its : List ItV) : Prop := ∀ x ∈ its, 1 ≤ x.n
theorem pos_nil : pos [] := fun _ h => absurd h (by simp)
theorem putI_pos {its : List ItV} (h : pos its) (most : Int) (kb : Nat) (n : Int) : pos (putI its most kb n).2 := by
 unfold putI
 split
 ·exact h
 ·split
  ·exact h
  ·rename_i h1
   split
   ·intro x hx
    rcases List.mem_or_eq_of_mem_set hx with h2 | rfl
    ·exact h x h2
    ·show 1 ≤ max _ n; omega
   ·split
    ·exact h
    ·intro x hx
     simp only [List.mem_append, List.mem_singleton] at hx
     rcases hx with (h2 | rfl) | h2
     ·exact h x (List.mem_of_mem_take h2)
     ·show 1 ≤ n; omega
     ·exact h x (List.mem_of_mem_drop h2)
theorem putAll_pos {its : List ItV} (h : pos its) (most : Int) : ∀ ops : List OpV, pos (putAll its most ops)
 | [] => h
 | o :: ops => putAll_pos (putI_pos h most o.key o.n) most ops
theorem putAll_rises {its : List ItV} (h : rises its) (most : Int) : ∀ ops : List OpV, rises (putAll its most ops)
 | [] => h
 | o :: ops => putAll_rises (putI_rises h most o.key o.n) most ops

theorem fold_ge (r : Rg) : ∀ (its : List ItV) (m : Int), m ≤ its.foldl (fun m x => if hasB r x.k.bits = true then max m x.n else m) m
 | [], m => Int.le_refl _
 | x :: its, m => by
  rw [List.foldl_cons]
  refine Int.le_trans ?_ (fold_ge r its _)
  split <;> omega
theorem fold_mem (r : Rg) : ∀ (its : List ItV) (m : Int) (x : ItV), x ∈ its → hasB r x.k.bits = true → x.n ≤ its.foldl (fun m x => if hasB r x.k.bits = true then max m x.n else m) m
 | [], _, _, hx, _ => absurd hx (by simp)
 | y :: its, m, x, hx, hb => by
  rw [List.foldl_cons]
  rcases List.mem_cons.1 hx with rfl | h
  ·refine Int.le_trans ?_ (fold_ge r its _)
   rw [if_pos hb]; omega
  ·exact fold_mem r its _ x h hb
theorem fold_att (r : Rg) : ∀ (its : List ItV) (m : Int), its.foldl (fun m x => if hasB r x.k.bits = true then max m x.n else m) m = m ∨ ∃ x ∈ its, hasB r x.k.bits = true ∧ its.foldl (fun m x => if hasB r x.k.bits = true then max m x.n else m) m = x.n
 | [], m => .inl rfl
 | y :: its, m => by
  rw [List.foldl_cons]
  rcases fold_att r its (if hasB r y.k.bits = true then max m y.n else m) with h | ⟨x, h1, h2, h3⟩
  ·rw [h]
   split
   ·rename_i hb
    rcases Int.le_total m y.n with h4 | h4
    ·exact .inr ⟨y, by simp, hb, by omega⟩
    ·exact .inl (by omega)
   ·exact .inl rfl
  ·exact .inr ⟨x, by simp [h1], h2, h3⟩
theorem overI_eq {its : List ItV} {r : Rg} {v : Int} (h0 : 0 ≤ v) (h1 : ∀ x ∈ its, hasB r x.k.bits = true → x.n ≤ v) (h2 : v = 0 ∨ ∃ x ∈ its, hasB r x.k.bits = true ∧ x.n = v) : overI its r = v := by
 have g := fold_ge r its 0
 rcases fold_att r its 0 with h | ⟨x, hx, hb, h⟩
 ·rcases h2 with h3 | ⟨x, hx, hb, h3⟩
  ·exact h.trans h3.symm
  ·have := fold_mem r its 0 x hx hb
   unfold overI; omega
 ·have k1 := h1 x hx hb
  rcases h2 with h3 | ⟨y, hy, hb', h3⟩
  ·unfold overI; omega
  ·have k2 := fold_mem r its 0 y hy hb'
   unfold overI; omega
theorem overI_nonneg (its : List ItV) (r : Rg) : 0 ≤ overI its r := fold_ge r its 0
theorem overI_mem {its : List ItV} {r : Rg} {x : ItV} (hx : x ∈ its) (hb : hasB r x.k.bits = true) : x.n ≤ overI its r := fold_mem r its 0 x hx hb
theorem over_one {its : List ItV} (hr : rises its) (hp : pos its) {x : ItV} (hx : x ∈ its) : overI its (some (x.k, x.k)) = x.n := by
 refine overI_eq (by have := hp x hx; omega) (fun y hy hb => ?_) (.inr ⟨x, hx, by rw [hasB_kk]; simp, rfl⟩)
 rw [hasB_kk] at hb
 simp at hb
 have : y = x := rises_inj hr hy hx (by rw [show y.k = x.k from Key.ext' (by omega)])
 rw [this]; exact Int.le_refl _
theorem over_snoc {its : List ItV} {k : Nat} {x : ItV} (hx : its[k]? = some x) (r : Rg) : overI (its.take (k + 1)) r = if hasB r x.k.bits = true then max (overI (its.take k) r) x.n else overI (its.take k) r := by
 rw [List.take_add_one, hx]
 exact overI_snoc _ x r
end Go.Proofs.YtfbachckdadhoaaGreat
namespace Go.Proofs.YtfbachckdadhoaaGreat
set_option linter.unusedVariables false
open Go.RowKit Fl

theorem code_key {kb : Nat} {k : Key} (h : codeOf k.bits = codeOf kb) : isNaN kb = false ∧ k = kof kb := by
 rw [codeOf_key] at h
 cases hn : isNaN kb
 ·refine ⟨rfl, ?_⟩
  have : codeOf kb = kcode (kof kb) := by simp [codeOf, hn]
  rw [this, kcode_eq] at h
  exact Key.ext' h
 ·have : codeOf kb = 0 := by simp [codeOf, hn]
  rw [this] at h
  have := kcode_lo k
  omega
theorem key_code {kb : Nat} (hn : isNaN kb = false) : codeOf (kof kb).bits = codeOf kb := by
 rw [codeOf_key]; simp [codeOf, hn]
theorem plc_false {its : List ItV} (hr : rises its) {kb : Nat} (hq : plcB its kb = false) {x : ItV} (hx : x ∈ its) : codeOf x.k.bits ≠ codeOf kb := by
 obtain ⟨i, hi, rfl⟩ := List.getElem_of_mem hx
 rcases Nat.lt_or_ge i (plcI its kb) with h | h
 ·exact Int.ne_of_lt (plc_before h (List.getElem?_eq_getElem hi))
 ·exact (Int.ne_of_lt (plc_miss hr hq h (List.getElem?_eq_getElem hi))).symm
theorem plc_true {its : List ItV} {kb : Nat} (hq : plcB its kb = true) : ∃ h : plcI its kb < its.length, codeOf (its[plcI its kb]'h).k.bits = codeOf kb := by
 have hp := plcB_lt hq
 refine ⟨hp, ?_⟩
 unfold plcB at hq
 rw [List.getElem?_eq_getElem hp] at hq
 simpa using hq
theorem atI_char {its : List ItV} (kb : Nat) : (∃ x ∈ its, codeOf x.k.bits = codeOf kb ∧ atI its kb = x.n) ∨ atI its kb = 0 := by
 cases hq : plcB its kb
 ·exact .inr (by simp [atI, hq])
 ·obtain ⟨hp, h⟩ := plc_true hq
  exact .inl ⟨_, List.getElem_mem hp, h, by simp [atI, hq, List.getElem?_eq_getElem hp]⟩

theorem take_drop_mem {its : List ItV} (p : Nat) (x : ItV) : x ∈ its ↔ x ∈ its.take p ∨ x ∈ its.drop p := by
 rw [← List.mem_append, List.take_append_drop]

theorem mem_putI {its : List ItV} (hr : rises its) (hp : pos its) (most : Int) (kb : Nat) (n : Int) (h0 : (putI its most kb n).1 = 0) :
  isNaN kb = false ∧ 1 ≤ n ∧ n ≤ 1099511627776 ∧ ∀ x : ItV, x ∈ (putI its most kb n).2 ↔ (x ∈ its ∧ x.k ≠ kof kb) ∨ (x.k = kof kb ∧ x.n = max (atI its kb) n) := by
 unfold putI at h0 ⊢
 by_cases h1 : isNaN kb = true
 ·rw [if_pos h1] at h0; simp at h0
 ·have h1' : isNaN kb = false := by simpa using h1
  rw [if_neg h1] at h0 ⊢
  by_cases h2 : n < 1 ∨ 1099511627776 < n
  ·rw [if_pos h2] at h0; simp at h0
  ·rw [if_neg h2] at h0 ⊢
   refine ⟨h1', by omega, by omega, fun x => ?_⟩
   by_cases h3 : plcB its kb = true
   ·rw [if_pos h3]
    obtain ⟨hpl, hk⟩ := plc_true h3
    have hk' := (code_key hk).2
    have hat : atI its kb = its[plcI its kb].n := by simp [atI, h3, List.getElem?_eq_getElem hpl]
    rw [hat]
    simp only [List.getElem?_eq_getElem hpl, Option.getD_some]
    generalize plcI its kb = p at *
    constructor
    ·intro hx
     obtain ⟨i, hi, rfl⟩ := List.getElem_of_mem hx
     rw [List.getElem_set]
     split
     ·exact .inr ⟨hk', rfl⟩
     ·rename_i hne
      have hi' : i < its.length := by simpa using hi
      refine .inl ⟨List.getElem_mem hi', fun e => hne ?_⟩
      have e1 := (plc_of_mem hr (List.getElem?_eq_getElem hi') (kb := its[i].k.bits) rfl).1
      have e2 := (plc_of_mem hr (List.getElem?_eq_getElem hpl) (kb := its[i].k.bits) (by rw [e, hk'])).1
      omega
    ·rintro (⟨hx, hne⟩ | ⟨e1, e2⟩)
     ·obtain ⟨i, hi, rfl⟩ := List.getElem_of_mem hx
      have hip : p ≠ i := fun e => hne (by subst e; exact hk')
      have : (its.set p ⟨its[p].k, max its[p].n n⟩)[i]'(by simpa using hi) = its[i] := by rw [List.getElem_set, if_neg hip]
      rw [← this]; exact List.getElem_mem _
     ·have : x = ⟨its[p].k, max its[p].n n⟩ := by
       cases x; simp only [ItV.mk.injEq]; exact ⟨by rw [hk']; exact e1, e2⟩
      rw [this]
      exact List.mem_set hpl _
   ·have h3' : plcB its kb = false := by simpa using h3
    rw [if_neg h3] at h0 ⊢
    by_cases h4 : (its.length : Int) = most
    ·rw [if_pos h4] at h0; simp at h0
    ·rw [if_neg h4]
     have hat : atI its kb = 0 := by simp [atI, h3']
     rw [hat]
     simp only [List.mem_append, List.mem_singleton]
     have hno : ∀ y ∈ its, y.k ≠ kof kb := fun y hy e => plc_false hr h3' hy (by rw [e]; exact key_code h1')
     have htd := take_drop_mem (its := its) (plcI its kb) x
     constructor
     ·rintro ((h | rfl) | h)
      ·exact .inl ⟨htd.2 (.inl h), hno x (htd.2 (.inl h))⟩
      ·exact .inr ⟨rfl, by show n = max 0 n; omega⟩
      ·exact .inl ⟨htd.2 (.inr h), hno x (htd.2 (.inr h))⟩
     ·rintro (⟨h, _⟩ | ⟨e1, e2⟩)
      ·rcases htd.1 h with h' | h'
       ·exact .inl (.inl h')
       ·exact .inr h'
      ·refine .inl (.inr ?_)
       cases x; simp only [ItV.mk.injEq] at *; exact ⟨e1, by omega⟩
theorem putI_same {its : List ItV} {most : Int} {kb : Nat} {n : Int} (h0 : (putI its most kb n).1 ≠ 0) : (putI its most kb n).2 = its := by
 unfold putI at *
 split
 ·rfl
 ·rename_i h1
  rw [if_neg h1] at h0
  split
  ·rfl
  ·rename_i h2
   rw [if_neg h2] at h0
   split
   ·rename_i h3; rw [if_pos h3] at h0; exact absurd rfl h0
   ·rename_i h3
    rw [if_neg h3] at h0
    split
    ·rfl
    ·rename_i h4; rw [if_neg h4] at h0; exact absurd rfl h0

def dom (its its' : List ItV) : Prop := ∀ x ∈ its, ∃ y ∈ its', y.k = x.k ∧ x.n ≤ y.n
theorem putI_dom {its : List ItV} (hr : rises its) (hp : pos its) (most : Int) (kb : Nat) (n : Int) : dom its (putI its most kb n).2 := by
 by_cases h0 : (putI its most kb n).1 = 0
 ·obtain ⟨_, _, _, hm⟩ := mem_putI hr hp most kb n h0
  intro x hx
  by_cases hk : x.k = kof kb
  ·refine ⟨⟨kof kb, max (atI its kb) n⟩, (hm _).2 (.inr ⟨rfl, rfl⟩), hk.symm, ?_⟩
   have := atI_of hr hx (kb := kb) (by rw [hk, key_code (by assumption)])
   show x.n ≤ max _ _; omega
  ·exact ⟨x, (hm x).2 (.inl ⟨hx, hk⟩), rfl, Int.le_refl _⟩
 ·rw [putI_same h0]; exact fun x hx => ⟨x, hx, rfl, Int.le_refl _⟩
theorem atI_nonneg {its : List ItV} (hp : pos its) (kb : Nat) : 0 ≤ atI its kb := by
 rcases atI_char (its := its) kb with ⟨x, hx, _, h⟩ | h
 ·have := hp x hx; omega
 ·omega
theorem dom_at {its its' : List ItV} (hr' : rises its') (hp' : pos its') (h : dom its its') (kb : Nat) : atI its kb ≤ atI its' kb := by
 rcases atI_char (its := its) kb with ⟨x, hx, hk, e⟩ | e
 ·obtain ⟨y, hy, h1, h2⟩ := h x hx
  have := atI_of hr' hy (kb := kb) (by rw [h1]; exact hk.symm)
  omega
 ·have := atI_nonneg hp' kb; omega
theorem dom_over {its its' : List ItV} (h : dom its its') (r : Rg) : overI its r ≤ overI its' r := by
 rcases fold_att r its 0 with e | ⟨x, hx, hb, e⟩
 ·have := overI_nonneg its' r
  unfold overI at *; omega
 ·obtain ⟨y, hy, h1, h2⟩ := h x hx
  have := overI_mem hy (r := r) (by rw [h1]; exact hb)
  unfold overI at *; omega
theorem putI_at {its : List ItV} (hr : rises its) (hp : pos its) (most : Int) (kb : Nat) (n : Int) (h0 : (putI its most kb n).1 = 0) : n ≤ atI (putI its most kb n).2 kb := by
 obtain ⟨hn, _, _, hm⟩ := mem_putI hr hp most kb n h0
 have := atI_of (putI_rises hr most kb n) ((hm ⟨kof kb, max (atI its kb) n⟩).2 (.inr ⟨rfl, rfl⟩)) (kb := kb) (key_code hn).symm
 rw [this]
 show n ≤ max _ _; omega

theorem rises_ext : ∀ {l l' : List ItV}, rises l → rises l' → (∀ x, x ∈ l ↔ x ∈ l') → l = l'
 | [], [], _, _, _ => rfl
 | [], y :: t', _, _, h => absurd ((h y).2 (by simp)) (by simp)
 | x :: t, [], _, _, h => absurd ((h x).1 (by simp)) (by simp)
 | x :: t, y :: t', h1, h2, h => by
  obtain ⟨a1, b1⟩ := List.pairwise_cons.1 h1
  obtain ⟨a2, b2⟩ := List.pairwise_cons.1 h2
  have e : x = y := by
   rcases List.mem_cons.1 ((h x).1 (by simp)) with e | e
   ·exact e
   ·rcases List.mem_cons.1 ((h y).2 (by simp)) with e' | e'
    ·exact e'.symm
    ·have := a1 y e'; have := a2 x e; omega
  subst e
  congr 1
  refine rises_ext b1 b2 fun z => ⟨fun hz => ?_, fun hz => ?_⟩
  ·rcases List.mem_cons.1 ((h z).1 (by simp [hz])) with e | e
   ·subst e; have := a1 z hz; omega
   ·exact e
  ·rcases List.mem_cons.1 ((h z).2 (by simp [hz])) with e | e
   ·subst e; have := a2 z hz; omega
   ·exact e

instance keyDec : DecidableEq Key := fun a b => decidable_of_iff (a.v = b.v) Key.eq_iff.symm
def good (o : OpV) : Bool := !isNaN o.key && decide (1 ≤ o.n) && decide (o.n ≤ 1099511627776)
def bestF (k : Key) (m : Int) (o : OpV) : Int := if good o = true ∧ kof o.key = k then max m o.n else m
def best (ops : List OpV) (k : Key) : Int := ops.foldl (bestF k) 0
theorem best_snoc (ops : List OpV) (o : OpV) (k : Key) : best (ops ++ [o]) k = bestF k (best ops k) o := by simp [best, List.foldl_append]
theorem best_rev (ops : List OpV) (k : Key) : best ops.reverse k = best ops k := by
 unfold best
 refine List.Perm.foldl_eq' (List.reverse_perm ops) (fun x _ y _ z => ?_) 0
 unfold bestF
 split <;> split <;> omega
theorem best_nonneg (k : Key) : ∀ (ops : List OpV) (m : Int), m ≤ ops.foldl (bestF k) m
 | [], m => Int.le_refl _
 | o :: ops, m => by
  rw [List.foldl_cons]
  refine Int.le_trans ?_ (best_nonneg k ops _)
  unfold bestF; split <;> omega
def isOf (its : List ItV) (ops : List OpV) : Prop := ∀ x : ItV, x ∈ its ↔ 1 ≤ x.n ∧ best ops x.k = x.n
theorem isOf_at {its : List ItV} {ops : List OpV} (hr : rises its) (h : isOf its ops) {kb : Nat} (hn : isNaN kb = false) : atI its kb = best ops (kof kb) := by
 by_cases hb : 1 ≤ best ops (kof kb)
 ·exact atI_of hr ((h ⟨kof kb, best ops (kof kb)⟩).2 ⟨hb, rfl⟩) (key_code hn).symm
 ·have h0 := best_nonneg (kof kb) ops 0
  have : best ops (kof kb) = 0 := by unfold best at *; omega
  rw [this]
  refine atI_not fun x hx e => ?_
  obtain ⟨h1, h2⟩ := (h x).1 hx
  rw [(code_key e).2] at h2
  omega
theorem putI_good {its : List ItV} {most : Int} {o : OpV} (hl : (its.length : Int) < most) : (putI its most o.key o.n).1 = 0 ↔ good o = true := by
 unfold putI good
 by_cases h1 : isNaN o.key = true
 ·rw [if_pos h1]; simp [h1]
 ·rw [if_neg h1]
  by_cases h2 : o.n < 1 ∨ 1099511627776 < o.n
  ·rw [if_pos h2]; simp [h1]; omega
  ·rw [if_neg h2]
   have : good o = true := by unfold good; simp [h1]; omega
   unfold good at this
   rw [this]
   split
   ·simp
   ·rw [if_neg (by omega)]; simp
theorem isOf_put {its : List ItV} {ops : List OpV} (hr : rises its) (hp : pos its) (h : isOf its ops) (most : Int) (o : OpV) (hl : (its.length : Int) < most) : isOf (putI its most o.key o.n).2 (ops ++ [o]) := by
 by_cases hg : good o = true
 ·obtain ⟨hn, h1, h2, hm⟩ := mem_putI hr hp most o.key o.n ((putI_good hl).2 hg)
  intro x
  rw [hm, best_snoc]
  by_cases hk : kof o.key = x.k
  ·have e : bestF x.k (best ops x.k) o = max (best ops x.k) o.n := by unfold bestF; rw [if_pos ⟨hg, hk⟩]
   rw [e, isOf_at hr h hn, hk]
   constructor
   ·rintro (⟨_, h3⟩ | ⟨_, h3⟩)
    ·exact absurd rfl h3
    ·omega
   ·rintro ⟨h3, h4⟩
    exact .inr ⟨rfl, h4.symm⟩
  ·have e : bestF x.k (best ops x.k) o = best ops x.k := by unfold bestF; rw [if_neg fun h' => hk h'.2]
   rw [e, ← h x]
   constructor
   ·rintro (⟨h3, _⟩ | ⟨h3, _⟩)
    ·exact h3
    ·exact absurd h3.symm hk
   ·exact fun h3 => .inl ⟨h3, fun e => hk e.symm⟩
 ·have hs : (putI its most o.key o.n).2 = its := putI_same fun e => hg ((putI_good hl).1 e)
  intro x
  rw [hs, best_snoc, h x]
  have : bestF x.k (best ops x.k) o = best ops x.k := by unfold bestF; rw [if_neg fun h' => hg h'.1]
  rw [this]
theorem putI_len (its : List ItV) (most : Int) (kb : Nat) (n : Int) : (putI its most kb n).2.length ≤ its.length + 1 := by
 unfold putI
 split
 ·simp
 ·split
  ·simp
  ·split
   ·simp
   ·split
    ·simp
    ·have := plcI_le its kb
     simp; omega
theorem putAll_len (most : Int) : ∀ (ops : List OpV) (its : List ItV), (putAll its most ops).length ≤ its.length + ops.length
 | [], its => by simp [putAll]
 | o :: ops, its => by
  have h1 := putAll_len most ops (putI its most o.key o.n).2
  have h2 := putI_len its most o.key o.n
  show (putAll (putI its most o.key o.n).2 most ops).length ≤ _
  simp only [List.length_cons]; omega
theorem putAll_isOf (most : Int) (ops : List OpV) (hl : (ops.length : Int) ≤ most) : ∀ i, i ≤ ops.length → isOf (putAll [] most (ops.take i)) (ops.take i)
 | 0, _ => by intro x; simp [putAll, best]; omega
 | i + 1, hi => by
  have ih := putAll_isOf most ops hl i (by omega)
  have hx : ops[i]? = some (ops[i]'(by omega)) := List.getElem?_eq_getElem (by omega)
  rw [putAll_snoc [] most hx, List.take_add_one, hx]
  refine isOf_put (putAll_rises List.Pairwise.nil most _) (putAll_pos pos_nil most _) ih most _ ?_
  have h1 := putAll_len most (ops.take i) []
  simp at h1; omega
theorem putAll_rev (most : Int) (ops : List OpV) (hl : (ops.length : Int) ≤ most) : putAll [] most ops.reverse = putAll [] most ops := by
 have h1 := putAll_isOf most ops hl ops.length (Nat.le_refl _)
 have h2 := putAll_isOf most ops.reverse (by simpa using hl) ops.reverse.length (Nat.le_refl _)
 rw [List.take_length] at h1 h2
 refine rises_ext (putAll_rises List.Pairwise.nil most _) (putAll_rises List.Pairwise.nil most _) fun x => ?_
 rw [h1 x, h2 x, best_rev]
end Go.Proofs.YtfbachckdadhoaaGreat
