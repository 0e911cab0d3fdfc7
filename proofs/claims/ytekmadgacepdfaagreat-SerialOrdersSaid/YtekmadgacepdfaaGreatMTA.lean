/- Several texts as one: TA TB TC. -/
import Derived.Test.YtekmadgacepdfaaGreatMKD
namespace Go.Proofs.YtekmadgacepdfaaGreat.T
set_option linter.unusedVariables false
open Fl

/-- A transaction: its number, its submission. -/
structure DoneV where
 num : Int
 s : SubV
def besideV (a b : DoneV) : Bool := decide (a.s.s2 < b.num) && decide (b.s.s2 < a.num)
def clashV (a b : DoneV) : Bool := besideV a b && a.s.ws.any fun k => b.s.writes k
def basicV (i : Nat) (d : DoneV) : Bool := decide (d.num = (i : Int) + 1) && (decide (K.SubV.check d.s = 0) && decide (d.s.s2 < d.num))
/-- What is looked at in round i. -/
def stepOk (h : List DoneV) (i : Nat) : Bool := match h[i]? with
 | some d => basicV i d && !(h.take i).any fun x => clashV x d
 | none => true
def rightV (h : List DoneV) : Bool := decide (h.length ≤ 64) && (List.range h.length).all fun i => stepOk h i
def leadsV (a b : DoneV) : Bool := if a.num = b.num then false else (a.s.ws.any fun k => (decide (a.num < b.num) && b.s.writes k) || (decide (a.num ≤ b.s.s2) && b.s.reads k)) || (decide (a.s.s2 < b.num) && a.s.meets b.s)
def edgesV (h : List DoneV) : List (Int × Int) := if rightV h then h.flatMap fun a => (h.filter fun b => leadsV a b).map fun b => (a.num, b.num) else []

/-! The document's. -/
def keysV (h : List DoneV) : List Nat := h.flatMap fun d => d.s.ws
def pairOk (h : List DoneV) (a b : DoneV) : Bool := decide (b.num ≤ a.s.s2) || (decide (a.num ≤ b.s.s2) || !(keysV h).any fun k => a.s.writes k && b.s.writes k)
def refBasic (h : List DoneV) (i : Nat) : Bool := match h[i]? with
 | some d => basicV i d
 | none => true
def refPair (h : List DoneV) (i k : Nat) : Bool := match h[i]?, h[k]? with
 | some a, some b => pairOk h a b
 | _, _ => true
def refRightV (h : List DoneV) : Bool := decide (h.length ≤ 64) && ((List.range h.length).all (fun i => refBasic h i) && (List.range h.length).all fun i => (List.range i).all fun k => refPair h i k)

theorem feq_trans' {a b c : Nat} (h1 : feq a b = true) (h2 : feq a c = true) : feq b c = true := by
 unfold feq at *
 simp only [Bool.and_eq_true, decide_eq_true_eq, Bool.not_eq_true'] at *
 exact ⟨⟨h1.1.2, h2.1.2⟩, h1.2.symm.trans h2.2⟩
theorem feq_refl' {a : Nat} (h : isNaN a = false) : feq a a = true := by unfold feq; simp [h]
theorem check_nan {x : SubV} (h : K.SubV.check x = 0) : ∀ k ∈ x.ws, isNaN k = false := by
 unfold K.SubV.check at h
 cases ha : x.ws.any isNaN
 ·intro k hk
  have := List.any_eq_false.1 ha k hk
  simpa using this
 ·exfalso
  rw [ha] at h
  revert h
  generalize K.SubV.nb x = p
  generalize K.SubV.mb x = q
  generalize x.rs.any isNaN = a
  generalize K.hasE x.ss = c
  generalize K.ordF x.rs = d
  generalize K.ordF x.ws = e
  generalize K.ordS x.ss = f
  cases p <;> cases q <;> cases a <;> cases c <;> cases d <;> cases e <;> cases f <;> decide
theorem basic_parts {i : Nat} {d : DoneV} (h : basicV i d = true) : d.num = (i : Int) + 1 ∧ K.SubV.check d.s = 0 ∧ d.s.s2 < d.num := by
 unfold basicV at h
 simpa using h
/-- Two rights writes clash just if they have a key of the history's in common. -/
theorem clash_keys {h : List DoneV} {a b : DoneV} (hb : b ∈ h) (kb : ∀ k ∈ b.s.ws, isNaN k = false) :
  ((keysV h).any fun k => a.s.writes k && b.s.writes k) = b.s.ws.any fun k => a.s.writes k := by
 rw [Bool.eq_iff_iff, List.any_eq_true, List.any_eq_true]
 constructor
 ·rintro ⟨k, hk, h2⟩
  rw [Bool.and_eq_true] at h2
  obtain ⟨x, hx, e1⟩ := List.any_eq_true.1 h2.1
  obtain ⟨y, hy, e2⟩ := List.any_eq_true.1 h2.2
  exact ⟨y, hy, List.any_eq_true.2 ⟨x, hx, feq_trans' e2 e1⟩⟩
 ·rintro ⟨k, hk, h2⟩
  refine ⟨k, List.mem_flatMap.2 ⟨b, hb, hk⟩, ?_⟩
  rw [Bool.and_eq_true]
  exact ⟨h2, List.any_eq_true.2 ⟨k, hk, feq_refl' (kb k hk)⟩⟩
theorem right_ref (h : List DoneV) : refRightV h = rightV h := by
 unfold refRightV rightV
 congr 1
 rw [Bool.eq_iff_iff, Bool.and_eq_true, List.all_eq_true, List.all_eq_true, List.all_eq_true]
 have key : (∀ i ∈ List.range h.length, refBasic h i = true) → ∀ i, i < h.length → ∀ d, h[i]? = some d → (((h.take i).any fun x => clashV x d) = false ↔ ∀ k ∈ List.range i, refPair h i k = true) := by
  intro hb i hi d hd
  rw [List.any_eq_false]
  constructor
  ·intro hc k hk
   have hk := List.mem_range.1 hk
   have hkl : k < h.length := by omega
   unfold refPair
   rw [hd, List.getElem?_eq_getElem hkl]
   have h1 := hc h[k] (List.mem_take_iff_getElem.2 ⟨k, by omega, rfl⟩)
   have hbk := hb k (List.mem_range.2 hkl)
   unfold refBasic at hbk
   rw [List.getElem?_eq_getElem hkl] at hbk
   obtain ⟨_, hck, _⟩ := basic_parts hbk
   show pairOk h d h[k] = true
   unfold pairOk
   rw [clash_keys (List.getElem_mem hkl) (check_nan hck)]
   unfold clashV besideV at h1
   revert h1
   cases ha : (h[k].s.ws.any fun k => d.s.writes k)
   ·simp
   ·simp only [Bool.and_true, Bool.not_true, Bool.or_false, Bool.and_eq_true, decide_eq_true_eq, Bool.or_eq_true]
    intro h1
    omega
  ·intro hp x hx
   obtain ⟨k, hk, rfl⟩ := List.mem_take_iff_getElem.1 hx
   have hki : k < i := by omega
   have hkl : k < h.length := by omega
   have h1 := hp k (List.mem_range.2 hki)
   unfold refPair at h1
   rw [hd, List.getElem?_eq_getElem hkl] at h1
   have hbk := hb k (List.mem_range.2 hkl)
   unfold refBasic at hbk
   rw [List.getElem?_eq_getElem hkl] at hbk
   obtain ⟨_, hck, _⟩ := basic_parts hbk
   change pairOk h d h[k] = true at h1
   unfold pairOk at h1
   rw [clash_keys (List.getElem_mem hkl) (check_nan hck)] at h1
   unfold clashV besideV
   revert h1
   cases ha : (h[k].s.ws.any fun k => d.s.writes k)
   ·simp
   ·simp only [Bool.and_true, Bool.not_true, Bool.or_false, Bool.and_eq_true, decide_eq_true_eq, Bool.or_eq_true]
    intro h1
    omega
 constructor
 ·rintro ⟨h1, h2⟩ i hi
  have hil := List.mem_range.1 hi
  have hd : h[i]? = some h[i] := List.getElem?_eq_getElem hil
  unfold stepOk
  rw [hd]
  have h3 := h1 i hi
  unfold refBasic at h3
  rw [hd] at h3
  change basicV i h[i] = true at h3
  have h4 := (key h1 i hil _ hd).2 (List.all_eq_true.1 (h2 i hi))
  show (basicV i h[i] && !(h.take i).any fun x => clashV x h[i]) = true
  rw [h3, h4]; rfl
 ·intro hs
  have h1 : ∀ i ∈ List.range h.length, refBasic h i = true := by
   intro i hi
   have hil := List.mem_range.1 hi
   have h3 := hs i hi
   unfold stepOk at h3
   unfold refBasic
   rw [List.getElem?_eq_getElem hil] at h3 ⊢
   simp only [Bool.and_eq_true] at h3
   exact h3.1
  refine ⟨h1, fun i hi => List.all_eq_true.2 ?_⟩
  have hil := List.mem_range.1 hi
  have hd : h[i]? = some h[i] := List.getElem?_eq_getElem hil
  have h3 := hs i hi
  unfold stepOk at h3
  rw [hd] at h3
  simp only [Bool.and_eq_true, Bool.not_eq_true'] at h3
  exact (key h1 i hil _ hd).1 h3.2
theorem right_num {h : List DoneV} (hr : rightV h = true) {i : Nat} {d : DoneV} (hd : h[i]? = some d) : d.num = (i : Int) + 1 ∧ K.SubV.check d.s = 0 ∧ d.s.s2 < d.num := by
 unfold rightV at hr
 rw [Bool.and_eq_true, List.all_eq_true] at hr
 have hi : i < h.length := (List.getElem?_eq_some_iff.1 hd).1
 have h3 := hr.2 i (List.mem_range.2 hi)
 unfold stepOk at h3
 rw [hd] at h3
 simp only [Bool.and_eq_true] at h3
 exact basic_parts h3.1
theorem right_len {h : List DoneV} (hr : rightV h = true) : h.length ≤ 64 := by
 unfold rightV at hr
 rw [Bool.and_eq_true, decide_eq_true_eq] at hr
 exact hr.1
theorem right_nil : rightV [] = true := rfl
end Go.Proofs.YtekmadgacepdfaaGreat.T
namespace Go.Proofs.YtekmadgacepdfaaGreat.T
set_option linter.unusedVariables false
open Fl
set_option linter.unusedSimpArgs false

def freeN (L : Int → Int → Bool) (l : List Int) (n : Int) : Bool := !(l.any fun m => L m n)
/-- The order, as far as it goes, and what is left. -/
def topo (L : Int → Int → Bool) : Nat → List Int → List Int × List Int
 | 0, l => ([], l)
 | k + 1, l => match l.find? (freeN L l) with
  | none => ([], l)
  | some n => (n :: (topo L k (l.erase n)).1, (topo L k (l.erase n)).2)
theorem topo_end {L : Int → Int → Bool} {l : List Int} (h : l.find? (freeN L l) = none) : ∀ k, topo L k l = ([], l)
 | 0 => rfl
 | k + 1 => by unfold topo; rw [h]
theorem topo_step {L : Int → Int → Bool} {l : List Int} {n : Int} (h : l.find? (freeN L l) = some n) :
  topo L l.length l = (n :: (topo L (l.erase n).length (l.erase n)).1, (topo L (l.erase n).length (l.erase n)).2) := by
 have hm := List.mem_of_find?_eq_some h
 have hl := List.length_erase_of_mem hm
 have h0 := List.length_pos_of_mem hm
 obtain ⟨k, hk⟩ : ∃ k, l.length = k + 1 := ⟨l.length - 1, by omega⟩
 have : (l.erase n).length = k := by omega
 rw [this, hk]
 conv => lhs; unfold topo
 rw [h]
theorem topo_perm (L : Int → Int → Bool) : ∀ (k : Nat) (l : List Int), ((topo L k l).1 ++ (topo L k l).2).Perm l
 | 0, l => List.Perm.refl _
 | k + 1, l => by
  unfold topo
  cases h : l.find? (freeN L l) with
  | none => exact List.Perm.refl _
  | some n => exact ((topo_perm L k (l.erase n)).cons n).trans (List.perm_cons_erase (List.mem_of_find?_eq_some h)).symm
theorem topo_sub (L : Int → Int → Bool) : ∀ (k : Nat) (l : List Int), (topo L k l).2.Sublist l
 | 0, l => List.Sublist.refl _
 | k + 1, l => by
  unfold topo
  cases h : l.find? (freeN L l) with
  | none => exact List.Sublist.refl _
  | some n => exact (topo_sub L k (l.erase n)).trans List.erase_sublist
theorem topo_stuck (L : Int → Int → Bool) : ∀ (k : Nat) (l : List Int), l.length ≤ k → (topo L k l).2.find? (freeN L (topo L k l).2) = none
 | 0, l, h => by
  have : l = [] := List.eq_nil_of_length_eq_zero (by omega)
  subst this; rfl
 | k + 1, l, h => by
  unfold topo
  cases hf : l.find? (freeN L l) with
  | none => exact hf
  | some n =>
   have hm := List.mem_of_find?_eq_some hf
   have hl := List.length_erase_of_mem hm
   exact topo_stuck L k (l.erase n) (by omega)
theorem topo_back (L : Int → Int → Bool) : ∀ (k : Nat) (l : List Int), (topo L k l).1.Pairwise (fun a b => L b a = false) ∧ ∀ a ∈ (topo L k l).1, ∀ b ∈ (topo L k l).2, L b a = false
 | 0, l => ⟨List.Pairwise.nil, fun _ h => nomatch h⟩
 | k + 1, l => by
  unfold topo
  cases hf : l.find? (freeN L l) with
  | none => exact ⟨List.Pairwise.nil, fun _ h => nomatch h⟩
  | some n =>
   obtain ⟨h1, h2⟩ := topo_back L k (l.erase n)
   have hp := topo_perm L k (l.erase n)
   have hfr := List.find?_some hf
   have hall : ∀ m ∈ l, L m n = false := fun m hm => by
    unfold freeN at hfr
    rw [Bool.not_eq_true', List.any_eq_false] at hfr
    have := hfr m hm
    simpa using this
   refine ⟨List.pairwise_cons.2 ⟨fun b hb => hall b (List.mem_of_mem_erase (hp.mem_iff.1 (List.mem_append_left _ hb))), h1⟩, fun a ha b hb => ?_⟩
   rcases List.mem_cons.1 ha with rfl | ha
   ·exact hall b (List.mem_of_mem_erase (hp.mem_iff.1 (List.mem_append_right _ hb)))
   ·exact h2 a ha b hb
/-- What is left is nothing, or two at least, if none leads to itself. -/
theorem topo_left {L : Int → Int → Bool} (hL : ∀ n, L n n = false) (k : Nat) (l : List Int) (hk : l.length ≤ k) : (topo L k l).2 = [] ∨ 2 ≤ (topo L k l).2.length := by
 have h := topo_stuck L k l hk
 generalize (topo L k l).2 = r at *
 match r, h with
 | [], _ => exact .inl rfl
 | [n], h =>
  exfalso
  rw [List.find?_eq_none] at h
  have := h n (List.mem_singleton_self _)
  simp [freeN, hL] at this
 | a :: b :: r, _ => right; simp

/-! Numbers. -/
def upN (n : Nat) : List Int := (List.range n).map fun (i : Nat) => (i : Int) + 1
theorem upN_len (n : Nat) : (upN n).length = n := by simp [upN]
theorem upN_mem {n : Nat} {m : Int} : m ∈ upN n ↔ 1 ≤ m ∧ m ≤ n := by
 unfold upN
 rw [List.mem_map]
 constructor
 ·rintro ⟨i, hi, rfl⟩
  have := List.mem_range.1 hi
  omega
 ·rintro ⟨h1, h2⟩
  exact ⟨(m - 1).toNat, List.mem_range.2 (by omega), by omega⟩
theorem upN_snoc (n : Nat) : upN (n + 1) = upN n ++ [(n : Int) + 1] := by
 unfold upN
 rw [List.range_succ, List.map_append]; rfl
theorem upN_rise : ∀ n : Nat, (upN n).Pairwise (· < ·)
 | 0 => List.Pairwise.nil
 | n + 1 => by
  rw [upN_snoc, List.pairwise_append]
  refine ⟨upN_rise n, List.pairwise_singleton _ _, fun a ha b hb => ?_⟩
  have := (upN_mem.1 ha).2
  rw [List.mem_singleton] at hb
  omega
theorem rise_nodup {l : List Int} (h : l.Pairwise (· < ·)) : l.Nodup := h.imp fun hlt => by omega
theorem perm_of_sub : ∀ {l m : List Int}, l.Nodup → l ⊆ m → m.length ≤ l.length → l.Perm m
 | [], m, _, _, h => by
  have : m = [] := List.eq_nil_of_length_eq_zero (by simpa using h)
  subst this; exact List.Perm.refl _
 | x :: l, m, hn, hs, h => by
  obtain ⟨h1, h2⟩ := List.nodup_cons.1 hn
  have hx : x ∈ m := hs (List.mem_cons_self ..)
  have hlen := List.length_erase_of_mem hx
  have h0 := List.length_pos_of_mem hx
  refine ((perm_of_sub (m := m.erase x) h2 (fun y hy => ?_) (by simp at h; omega)).cons x).trans (List.perm_cons_erase hx).symm
  have hy2 : y ∈ m := hs (List.mem_cons_of_mem _ hy)
  rcases List.mem_cons.1 ((List.perm_cons_erase hx).mem_iff.1 hy2) with rfl | h3
  ·exact absurd hy h1
  ·exact h3
/-- Two rising lists of the same numbers are one. -/
theorem rise_eq : ∀ {a b : List Int}, a.Pairwise (· < ·) → b.Pairwise (· < ·) → (∀ x, x ∈ a ↔ x ∈ b) → a = b
 | [], [], _, _, _ => rfl
 | [], y :: b, _, _, h => by have := (h y).2 (List.mem_cons_self ..); cases this
 | x :: a, [], _, _, h => by have := (h x).1 (List.mem_cons_self ..); cases this
 | x :: a, y :: b, ha, hb, h => by
  obtain ⟨a1, a2⟩ := List.pairwise_cons.1 ha
  obtain ⟨b1, b2⟩ := List.pairwise_cons.1 hb
  have hxy : x = y := by
   rcases List.mem_cons.1 ((h x).1 (List.mem_cons_self ..)) with h1 | h1
   ·exact h1
   ·rcases List.mem_cons.1 ((h y).2 (List.mem_cons_self ..)) with h2 | h2
    ·exact h2.symm
    ·have := b1 x h1; have := a1 y h2; omega
  subst hxy
  rw [rise_eq a2 b2 fun z => ?_]
  constructor
  ·intro hz
   have := a1 z hz
   rcases List.mem_cons.1 ((h z).1 (List.mem_cons_of_mem _ hz)) with h1 | h1
   ·omega
   ·exact h1
  ·intro hz
   have := b1 z hz
   rcases List.mem_cons.1 ((h z).2 (List.mem_cons_of_mem _ hz)) with h1 | h1
   ·omega
   ·exact h1

theorem feq_val {a b : Nat} (h : feq a b = true) : isNaN a = false ∧ isNaN b = false ∧ (kof a).v = (kof b).v := by
 unfold feq at h
 simp only [Bool.and_eq_true, decide_eq_true_eq, Bool.not_eq_true'] at h
 exact ⟨h.1.1, h.1.2, h.2⟩
theorem hasB_feq {r : Rg} {a b : Nat} (h : feq a b = true) : hasB r a = hasB r b := by
 obtain ⟨h1, h2, h3⟩ := feq_val h
 unfold hasB
 cases r with
 | none => rfl
 | some p => unfold fle; simp only [h1, h2, h3]
theorem feq_left {x a b : Nat} (h : feq a b = true) : feq a x = feq b x := by
 obtain ⟨h1, h2, h3⟩ := feq_val h
 unfold feq
 simp only [h1, h2, h3]
theorem reads_feq (s : SubV) {a b : Nat} (h : feq a b = true) : s.reads a = s.reads b := by
 unfold SubV.reads
 rw [funext fun x => feq_left (x := x) h, funext fun (x : SpanV) => hasB_feq (r := x.rg) h]
theorem writes_feq (s : SubV) {a b : Nat} (h : feq a b = true) : s.writes a = s.writes b := by
 unfold SubV.writes
 rw [funext fun x => feq_left (x := x) h]

/-! A history's order. -/
def atN (h : List DoneV) (n : Int) : Option DoneV := h[(n - 1).toNat]?
def lead (h : List DoneV) (m n : Int) : Bool := match atN h m, atN h n with
 | some a, some b => leadsV a b
 | _, _ => false
def numsV (h : List DoneV) : List Int := h.map DoneV.num
theorem nums_right {h : List DoneV} (hr : rightV h = true) : numsV h = upN h.length := by
 refine List.ext_getElem? fun i => ?_
 unfold numsV upN
 rw [List.getElem?_map, List.getElem?_map]
 by_cases hi : i < h.length
 ·rw [List.getElem?_eq_getElem hi, List.getElem?_range hi]
  show some _ = some _
  rw [(right_num hr (List.getElem?_eq_getElem hi)).1]
 ·rw [List.getElem?_eq_none_iff.2 (by omega), List.getElem?_eq_none_iff.2 (by simp; omega)]; rfl
theorem leads_self (a : DoneV) : leadsV a a = false := by unfold leadsV; rw [if_pos rfl]
theorem lead_self (h : List DoneV) (n : Int) : lead h n n = false := by
 unfold lead
 cases atN h n with
 | none => rfl
 | some a => exact leads_self a
def sortV (h : List DoneV) : List Int × List Int := if rightV h then topo (lead h) h.length (upN h.length) else ([], [])
theorem sort_perm {h : List DoneV} (hr : rightV h = true) : ((sortV h).1 ++ (sortV h).2).Perm (upN h.length) := by
 unfold sortV
 rw [if_pos hr]
 exact topo_perm _ _ _
theorem sort_left {h : List DoneV} (hr : rightV h = true) : (sortV h).2 = [] ∨ 2 ≤ (sortV h).2.length := by
 unfold sortV
 rw [if_pos hr]
 exact topo_left (lead_self h) _ _ (by rw [upN_len]; omega)
theorem sort_rise (h : List DoneV) : (sortV h).2.Pairwise (· < ·) := by
 unfold sortV
 split
 ·exact (upN_rise _).sublist (topo_sub _ _ _)
 ·exact List.Pairwise.nil
theorem sort_apart {h : List DoneV} (hr : rightV h = true) : ∀ n ∈ (sortV h).2, n ∉ (sortV h).1 := by
 intro n hn hn1
 have hp := (sort_perm hr).nodup_iff.2 (rise_nodup (upN_rise _))
 exact (List.nodup_append.1 hp).2.2 n hn1 n hn rfl
theorem sort_count {h : List DoneV} (hr : rightV h = true) : (sortV h).1.length + (sortV h).2.length = h.length := by
 have := (sort_perm hr).length_eq
 rw [List.length_append, upN_len] at this
 exact this

/-! What is read. -/
def lastOf (l : List Int) : Int := l.getLast?.getD 0
def wrN (h : List DoneV) (k : Nat) (n : Int) : Bool := match atN h n with
 | some d => d.s.writes k
 | none => false
def lastV (h : List DoneV) (k : Nat) (l : List Int) : Int := lastOf (l.filter (wrN h k))
def versionV (h : List DoneV) (k : Nat) (snap : Int) : Int := lastOf ((h.filter fun d => decide (d.num ≤ snap) && d.s.writes k).map DoneV.num)
def rdOk (h : List DoneV) (order : List Int) (k : Nat) (i : Nat) : Bool := match order[i]? with
 | some n => (match atN h n with
  | some t => !t.s.reads k || decide (lastV h k (order.take i) = versionV h k t.s.s2)
  | none => true)
 | none => true
def permOk (h : List DoneV) (order : List Int) : Bool := h.all fun d => order.contains d.num
def readsV (h : List DoneV) (order : List Int) : Bool := (rightV h && (decide (order.length = h.length) && permOk h order)) && (keysV h).all fun k => (List.range order.length).all fun i => rdOk h order k i
def refReadsV (h : List DoneV) (order : List Int) : Bool := (decide (order.length = h.length) && permOk h order) && (List.range order.length).all fun i => (keysV h).all fun k => rdOk h order k i
theorem reads_ref (h : List DoneV) (order : List Int) : readsV h order = (rightV h && refReadsV h order) := by
 have he : ((keysV h).all fun k => (List.range order.length).all fun i => rdOk h order k i) = (List.range order.length).all fun i => (keysV h).all fun k => rdOk h order k i := by
  rw [Bool.eq_iff_iff]
  simp only [List.all_eq_true]
  exact ⟨fun H i hi k hk => H k hk i hi, fun H k hk i hi => H i hi k hk⟩
 unfold readsV refReadsV
 rw [he, Bool.and_assoc]
theorem perm_of_ok {h : List DoneV} (hr : rightV h = true) {order : List Int} (hl : order.length = h.length) (hp : permOk h order = true) : order.Perm (upN h.length) := by
 unfold permOk at hp
 rw [List.all_eq_true] at hp
 have hsub : upN h.length ⊆ order := fun n hn => by
  rw [← nums_right hr] at hn
  obtain ⟨d, hd, rfl⟩ := List.mem_map.1 hn
  have := hp d hd
  simpa using this
 exact (perm_of_sub (rise_nodup (upN_rise _)) hsub (by rw [upN_len]; omega)).symm
theorem ok_of_perm {h : List DoneV} (hr : rightV h = true) {order : List Int} (hp : order.Perm (upN h.length)) : order.length = h.length ∧ permOk h order = true := by
 refine ⟨by rw [hp.length_eq, upN_len], ?_⟩
 unfold permOk
 rw [List.all_eq_true]
 intro d hd
 rw [List.contains_iff_mem, hp.mem_iff, ← nums_right hr]
 exact List.mem_map.2 ⟨d, hd, rfl⟩
theorem at_of_mem {h : List DoneV} (hr : rightV h = true) {n : Int} (hn : n ∈ upN h.length) : ∃ d, atN h n = some d ∧ d.num = n := by
 obtain ⟨h1, h2⟩ := upN_mem.1 hn
 have hi : (n - 1).toNat < h.length := by omega
 refine ⟨h[(n - 1).toNat], List.getElem?_eq_getElem hi, ?_⟩
 rw [(right_num hr (List.getElem?_eq_getElem hi)).1]; omega
theorem at_num {h : List DoneV} (hr : rightV h = true) {d : DoneV} (hd : d ∈ h) : atN h d.num = some d := by
 obtain ⟨i, hi, rfl⟩ := List.mem_iff_getElem.1 hd
 unfold atN
 rw [(right_num hr (List.getElem?_eq_getElem hi)).1, show ((i : Int) + 1 - 1).toNat = i by omega, List.getElem?_eq_getElem hi]
theorem at_mem {h : List DoneV} {n : Int} {d : DoneV} (hd : atN h n = some d) : d ∈ h := List.mem_of_getElem? hd
theorem reads_meets {a b : SubV} {k : Nat} (ha : a.reads k = true) (hb : b.writes k = true) : a.meets b = true := by
 obtain ⟨x, hx, e1⟩ := List.any_eq_true.1 hb
 exact List.any_eq_true.2 ⟨x, hx, by rw [← reads_feq a e1]; exact ha⟩
/-- Writers of one key: the edge leads from the lesser number to the greater one. -/
theorem lead_writers {h : List DoneV} {a b : Int} {d e : DoneV} {k : Nat} (hd : atN h a = some d) (he : atN h b = some e) (hda : d.num = a) (heb : e.num = b) (hab : a < b) (h1 : d.s.writes k = true) (h2 : e.s.writes k = true) : lead h a b = true := by
 unfold lead
 rw [hd, he]
 show leadsV d e = true
 unfold leadsV
 rw [if_neg (by omega), Bool.or_eq_true]
 left
 obtain ⟨x, hx, e1⟩ := List.any_eq_true.1 h1
 refine List.any_eq_true.2 ⟨x, hx, ?_⟩
 rw [Bool.or_eq_true, Bool.and_eq_true]
 exact .inl ⟨by rw [decide_eq_true_eq]; omega, by rw [← writes_feq _ e1]; exact h2⟩
theorem lead_seen {h : List DoneV} {a b : Int} {d t : DoneV} {k : Nat} (hd : atN h a = some d) (he : atN h b = some t) (hne : d.num ≠ t.num) (hs : d.num ≤ t.s.s2) (h1 : d.s.writes k = true) (h2 : t.s.reads k = true) : lead h a b = true := by
 unfold lead
 rw [hd, he]
 show leadsV d t = true
 unfold leadsV
 rw [if_neg hne, Bool.or_eq_true]
 left
 obtain ⟨x, hx, e1⟩ := List.any_eq_true.1 h1
 refine List.any_eq_true.2 ⟨x, hx, ?_⟩
 rw [Bool.or_eq_true, Bool.and_eq_true, Bool.and_eq_true]
 exact .inr ⟨by rw [decide_eq_true_eq]; omega, by rw [← reads_feq _ e1]; exact h2⟩
theorem lead_back {h : List DoneV} {a b : Int} {d t : DoneV} {k : Nat} (ht : atN h a = some t) (hd : atN h b = some d) (hne : t.num ≠ d.num) (hs : t.s.s2 < d.num) (h1 : d.s.writes k = true) (h2 : t.s.reads k = true) : lead h a b = true := by
 unfold lead
 rw [hd, ht]
 show leadsV t d = true
 unfold leadsV
 rw [if_neg hne, Bool.or_eq_true, Bool.and_eq_true]
 exact .inr ⟨by rw [decide_eq_true_eq]; omega, reads_meets h2 h1⟩
theorem filter_rise {h : List DoneV} (hr : rightV h = true) (p : DoneV → Bool) : ((h.filter p).map DoneV.num).Pairwise (· < ·) := by
 have h1 := upN_rise h.length
 rw [← nums_right hr] at h1
 exact h1.sublist (List.Sublist.map _ List.filter_sublist)
/-- In an order in which no edge leads back all is read as it was. -/
theorem order_reads {h : List DoneV} (hr : rightV h = true) {o : List Int} (hp : o.Perm (upN h.length)) (hb : o.Pairwise fun a b => lead h b a = false) : readsV h o = true := by
 obtain ⟨hl, hpo⟩ := ok_of_perm hr hp
 have hnd : o.Nodup := hp.nodup_iff.2 (rise_nodup (upN_rise _))
 unfold readsV
 rw [hr, hl, hpo, decide_eq_true rfl]
 simp only [Bool.and_self, Bool.true_and, List.all_eq_true]
 intro k _ i hi
 have hil : i < o.length := by rw [hl]; exact List.mem_range.1 hi
 obtain ⟨t, ht, htn⟩ := at_of_mem hr (hp.mem_iff.1 (List.getElem_mem hil))
 unfold rdOk
 rw [List.getElem?_eq_getElem hil]
 simp only [ht]
 cases hrd : t.s.reads k
 ·rfl
 rw [Bool.not_true, Bool.false_or, decide_eq_true_eq]
 have hsn : t.s.s2 < t.num := by
  obtain ⟨j, hj, hjt⟩ := List.mem_iff_getElem.1 (at_mem ht)
  subst hjt
  exact (right_num hr (List.getElem?_eq_getElem hj)).2.2
 have hsplit : o = o.take i ++ o[i] :: o.drop (i + 1) := by
  rw [← List.drop_eq_getElem_cons hil, List.take_append_drop]
 have hb' := hb
 rw [hsplit, List.pairwise_append, List.pairwise_cons] at hb'
 obtain ⟨hb1, ⟨hb2, _⟩, hb3⟩ := hb'
 have hnd' := hnd
 rw [hsplit, List.nodup_append, List.nodup_cons] at hnd'
 obtain ⟨nd1, ⟨nd2, _⟩, nd3⟩ := hnd'
 have hmem : ∀ x, x ∈ o ↔ x ∈ o.take i ∨ x = o[i] ∨ x ∈ o.drop (i + 1) := fun x => by
  conv => lhs; rw [hsplit]
  rw [List.mem_append, List.mem_cons]
 generalize o[i] = n at *
 unfold lastV versionV
 congr 1
 refine rise_eq ?_ (filter_rise hr _) fun x => ?_
 ·have hsub := List.Pairwise.and hb1 nd1
  refine List.Pairwise.imp_of_mem (fun {a b} ha hb hab => ?_) (List.Pairwise.filter (wrN h k) hsub)
  obtain ⟨ha1, ha2⟩ := List.mem_filter.1 ha
  obtain ⟨hb1, hb2⟩ := List.mem_filter.1 hb
  obtain ⟨hab1, hne⟩ := hab
  obtain ⟨d, hd, hdn⟩ := at_of_mem hr (hp.mem_iff.1 ((hmem a).2 (.inl ha1)))
  obtain ⟨e, he, hen⟩ := at_of_mem hr (hp.mem_iff.1 ((hmem b).2 (.inl hb1)))
  unfold wrN at ha2 hb2
  rw [hd] at ha2
  rw [he] at hb2
  rcases Int.lt_trichotomy a b with hlt | heq | hgt
  ·exact hlt
  ·exact absurd heq hne
  ·rw [lead_writers he hd hen hdn hgt hb2 ha2] at hab1
   cases hab1
 ·constructor
  ·intro hx
   obtain ⟨hx1, hx2⟩ := List.mem_filter.1 hx
   obtain ⟨d, hd, hdn⟩ := at_of_mem hr (hp.mem_iff.1 ((hmem x).2 (.inl hx1)))
   unfold wrN at hx2
   rw [hd] at hx2
   have hxn : x ≠ n := nd3 x hx1 n (List.mem_cons_self ..)
   refine List.mem_map.2 ⟨d, List.mem_filter.2 ⟨at_mem hd, ?_⟩, hdn⟩
   rw [Bool.and_eq_true, decide_eq_true_eq]
   refine ⟨?_, hx2⟩
   by_cases hle : d.num ≤ t.s.s2
   ·exact hle
   ·exfalso
    have h1 := lead_back ht hd (by omega) (by omega) hx2 hrd
    rw [hb3 x hx1 n (List.mem_cons_self ..)] at h1
    cases h1
  ·intro hx
   obtain ⟨d, hd, rfl⟩ := List.mem_map.1 hx
   obtain ⟨hd1, hd2⟩ := List.mem_filter.1 hd
   rw [Bool.and_eq_true, decide_eq_true_eq] at hd2
   have hat := at_num hr hd1
   have hin : d.num ∈ o := hp.mem_iff.2 (by rw [← nums_right hr]; exact List.mem_map.2 ⟨d, hd1, rfl⟩)
   refine List.mem_filter.2 ⟨?_, by unfold wrN; rw [hat]; exact hd2.2⟩
   rcases (hmem _).1 hin with h1 | h1 | h1
   ·exact h1
   ·omega
   ·exfalso
    have h2 := lead_seen hat ht (by omega) hd2.1 hd2.2 hrd
    rw [hb2 _ h1] at h2
    cases h2
theorem sort_reads {h : List DoneV} (hr : rightV h = true) (h0 : (sortV h).2 = []) : readsV h (sortV h).1 = true := by
 have hp := sort_perm hr
 rw [h0, List.append_nil] at hp
 refine order_reads hr hp ?_
 unfold sortV
 rw [if_pos hr]
 exact (topo_back _ _ _).1
end Go.Proofs.YtekmadgacepdfaaGreat.T
namespace Go.Proofs.YtekmadgacepdfaaGreat.T
set_option linter.unusedVariables false
open Fl
set_option linter.unusedSimpArgs false

/-! A chain. -/
/-- All edges lead on. -/
theorem topo_up {L : Int → Int → Bool} (n : Nat) (hL : ∀ a b : Int, 1 ≤ a → a ≤ n → 1 ≤ b → b ≤ n → L a b = decide (a < b)) : ∀ (k : Nat) (l : List Int), l.length ≤ k → l.Pairwise (· < ·) → (∀ x ∈ l, 1 ≤ x ∧ x ≤ (n : Int)) → topo L k l = (l, [])
 | 0, l, h, _, _ => by
  have : l = [] := List.eq_nil_of_length_eq_zero (by omega)
  subst this; rfl
 | k + 1, [], _, _, _ => rfl
 | k + 1, x :: l, h, hp, hm => by
  obtain ⟨h1, h2⟩ := List.pairwise_cons.1 hp
  have hx := hm x (List.mem_cons_self ..)
  have hf : (x :: l).find? (freeN L (x :: l)) = some x := by
   rw [List.find?_cons_of_pos]
   unfold freeN
   rw [Bool.not_eq_true', List.any_eq_false]
   intro m hmm
   have hmb := hm m hmm
   rw [hL m x hmb.1 hmb.2 hx.1 hx.2]
   rcases List.mem_cons.1 hmm with rfl | h3
   ·simp
   ·have := h1 m h3
    simp; omega
  unfold topo
  rw [hf]
  simp only [List.erase_cons_head]
  rw [topo_up n hL k l (by simpa using h) h2 fun y hy => hm y (List.mem_cons_of_mem _ hy)]
/-- How many pairs a relation holds of. -/
def pairs (R : DoneV → DoneV → Bool) (l m : List DoneV) : Nat := (l.flatMap fun a => (m.filter fun b => R a b).map fun b => (a.num, b.num)).length
theorem pairs_cons (R : DoneV → DoneV → Bool) (a : DoneV) (l m : List DoneV) : pairs R (a :: l) m = (m.filter fun b => R a b).length + pairs R l m := by
 unfold pairs
 rw [List.flatMap_cons, List.length_append, List.length_map]
theorem pairs_back {R : DoneV → DoneV → Bool} {x : DoneV} : ∀ {l m : List DoneV}, (∀ a ∈ l, R a x = false) → pairs R l (x :: m) = pairs R l m
 | [], _, _ => rfl
 | a :: l, m, h => by
  rw [pairs_cons, pairs_cons, pairs_back fun b hb => h b (List.mem_cons_of_mem _ hb), List.filter_cons_of_neg (by rw [h a (List.mem_cons_self ..)]; simp)]
theorem pairs_all {R : DoneV → DoneV → Bool} : ∀ {l : List DoneV}, l.Pairwise (fun a b => R a b = true ∧ R b a = false) → (∀ a ∈ l, R a a = false) → 2 * pairs R l l = l.length * (l.length - 1)
 | [], _, _ => rfl
 | a :: l, hp, hs => by
  obtain ⟨h1, h2⟩ := List.pairwise_cons.1 hp
  have ih := pairs_all h2 fun b hb => hs b (List.mem_cons_of_mem _ hb)
  rw [pairs_cons, pairs_back fun b hb => (h1 b hb).2, List.filter_cons_of_neg (by rw [hs a (List.mem_cons_self ..)]; simp), List.filter_eq_self.2 fun b hb => (h1 b hb).1, Nat.mul_add, ih, List.length_cons]
  generalize l.length = n
  cases n with
  | zero => rfl
  | succ n =>
   simp only [Nat.add_sub_cancel]
   rw [show n + 1 + 1 = (n + 2) by omega, Nat.mul_comm (n + 2) (n + 1), Nat.mul_comm (n + 1) n, Nat.mul_comm (n + 1) (n + 2), Nat.add_mul n 2 (n + 1), Nat.add_comm]
/-- A chain: every transaction reads and writes the one key, and has seen all ahead of it. -/
def chainOk (k : Nat) (h : List DoneV) : Prop := ∀ (i : Nat) (d : DoneV), h[i]? = some d → d.num = (i : Int) + 1 ∧ d.s.s0 = 1 ∧ d.s.s1 = (i : Int) + 1 ∧ d.s.s2 = i ∧ d.s.rs = [k] ∧ d.s.ss = [] ∧ d.s.ws = [k]
theorem chain_leads {k : Nat} (hk : isNaN k = false) {h : List DoneV} (hc : chainOk k h) {i j : Nat} {a b : DoneV} (ha : h[i]? = some a) (hb : h[j]? = some b) : leadsV a b = decide (i < j) := by
 obtain ⟨a1, _, _, a4, a5, a6, a7⟩ := hc i a ha
 obtain ⟨b1, _, _, b4, b5, b6, b7⟩ := hc j b hb
 have hkk : feq k k = true := feq_refl' hk
 have hw : b.s.writes k = true := by unfold SubV.writes; rw [b7]; simp [hkk]
 unfold leadsV
 rw [a1, b1, a4, b4, a7]
 by_cases he : i = j
 ·subst he; simp
 ·rw [if_neg (by omega)]
  by_cases hlt : i < j
  ·simp [hw, hlt]
  ·simp [hlt]
   omega
theorem chain_lead {k : Nat} (hk : isNaN k = false) {h : List DoneV} (hc : chainOk k h) : ∀ a b : Int, 1 ≤ a → a ≤ (h.length : Nat) → 1 ≤ b → b ≤ (h.length : Nat) → lead h a b = decide (a < b) := by
 intro a b ha1 ha2 hb1 hb2
 have hi : (a - 1).toNat < h.length := by omega
 have hj : (b - 1).toNat < h.length := by omega
 unfold lead atN
 rw [List.getElem?_eq_getElem hi, List.getElem?_eq_getElem hj]
 show leadsV _ _ = _
 rw [chain_leads hk hc (List.getElem?_eq_getElem hi) (List.getElem?_eq_getElem hj)]
 rw [decide_eq_decide]; omega
theorem chain_sort {k : Nat} (hk : isNaN k = false) {h : List DoneV} (hc : chainOk k h) (hr : rightV h = true) : sortV h = (upN h.length, []) := by
 unfold sortV
 rw [if_pos hr]
 exact topo_up h.length (chain_lead hk hc) _ _ (by rw [upN_len]; omega) (upN_rise _) fun x hx => upN_mem.1 hx
theorem chain_edges {k : Nat} (hk : isNaN k = false) {h : List DoneV} (hc : chainOk k h) (hr : rightV h = true) : 2 * (edgesV h).length = h.length * (h.length - 1) := by
 have h1 : 2 * pairs leadsV h h = h.length * (h.length - 1) := by
  refine pairs_all ?_ fun a _ => leads_self a
  rw [List.pairwise_iff_getElem]
  intro i j hi hj hij
  rw [chain_leads hk hc (List.getElem?_eq_getElem hi) (List.getElem?_eq_getElem hj), chain_leads hk hc (List.getElem?_eq_getElem hj) (List.getElem?_eq_getElem hi)]
  exact ⟨decide_eq_true hij, decide_eq_false (by omega)⟩
 unfold edgesV
 rw [if_pos hr]
 exact h1

/-! Two transactions. -/
def onV (a b : SubV) (seen : Bool) : Bool := ((a.ws.any fun k => b.writes k) || (seen && b.meets a)) || a.meets b
def backV (a b : SubV) (seen : Bool) : Bool := !seen && b.meets a
theorem pair_leads {a b : DoneV} {seen : Bool} (ha : a.num = 1) (hb : b.num = 2) (ha2 : a.s.s2 = 0) (hb2 : b.s.s2 = if seen then 1 else 0) : leadsV a b = onV a.s b.s seen ∧ leadsV b a = backV a.s b.s seen := by
 constructor
 ·unfold leadsV onV
  rw [if_neg (by omega), ha, hb, ha2, hb2]
  cases seen
  ·simp
  ·simp
   unfold SubV.meets
   rw [show (fun k => b.s.writes k || b.s.reads k) = fun k => b.s.writes k || b.s.reads k from rfl]
   congr 1
   rw [Bool.eq_iff_iff]
   simp only [Bool.or_eq_true, List.any_eq_true]
   constructor
   ·rintro ⟨x, hx, h | h⟩
    ·exact .inl ⟨x, hx, h⟩
    ·exact .inr ⟨x, hx, h⟩
   ·rintro (⟨x, hx, h⟩ | ⟨x, hx, h⟩)
    ·exact ⟨x, hx, .inl h⟩
    ·exact ⟨x, hx, .inr h⟩
 ·unfold leadsV backV
  rw [if_neg (by omega), ha, hb, ha2, hb2]
  cases seen <;> simp
theorem pair_edges {a b : DoneV} (hr : rightV [a, b] = true) : edgesV [a, b] = (if leadsV a b then [(a.num, b.num)] else []) ++ (if leadsV b a then [(b.num, a.num)] else []) := by
 unfold edgesV
 rw [if_pos hr]
 simp only [List.flatMap_cons, List.flatMap_nil, List.append_nil, List.filter_cons, List.filter_nil, leads_self]
 cases leadsV a b <;> cases leadsV b a <;> rfl
end Go.Proofs.YtekmadgacepdfaaGreat.T
