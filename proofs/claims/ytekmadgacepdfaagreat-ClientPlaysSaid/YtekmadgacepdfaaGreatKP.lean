/- Plain laws of rows of numbers in their forms: sorted, each once. -/
import Derived.Test.YtekmadgacepdfaaGreatR1
import Derived.Test.YtekmadgacepdfaaGreatC0
import Derived.Shelf.SlSortCmp.Insertion
namespace Go.Proofs.YtekmadgacepdfaaGreat.K
set_option linter.unusedVariables false
open Go.RowKit Fl Go.Sort

theorem nan_nan : isNaN nanBits = true := by decide
theorem cbits_cbits (b : Nat) : cbits (cbits b) = cbits b := by
 cases h : isNaN b
 ·rw [cbits_num h, cbits_key]
 ·rw [cbits_nan h, cbits_nan nan_nan]
theorem codeOf_cbits (b : Nat) : codeOf (cbits b) = codeOf b := by
 cases h : isNaN b
 ·rw [cbits_num h, codeOf_key]; simp [codeOf, h]
 ·rw [cbits_nan h]; simp [codeOf, h, nan_nan]
theorem cbits_of_code {a b : Nat} (h : codeOf a = codeOf b) : cbits a = cbits b := by
 cases ha : isNaN a <;> cases hb : isNaN b
 ·have e : kcode (kof a) = kcode (kof b) := by simpa [codeOf, ha, hb] using h
  rw [cbits_num ha, cbits_num hb, Key.ext' ((kcode_eq _ _).1 e)]
 ·have e : kcode (kof a) = 0 := by simpa [codeOf, ha, hb] using h
  have := kcode_lo (kof a); omega
 ·have e : 0 = kcode (kof b) := by simpa [codeOf, ha, hb] using h
  have := kcode_lo (kof b); omega
 ·rw [cbits_nan ha, cbits_nan hb]
structure CB where
 b : Nat
 ok : cbits b = b
instance : Inhabited CB := ⟨⟨nanBits, cbits_nan nan_nan⟩⟩
def CB.code (x : CB) : Int := codeOf x.b
def cb (b : Nat) : CB := ⟨cbits b, cbits_cbits b⟩
theorem cb_code (b : Nat) : (cb b).code = codeOf b := codeOf_cbits b
theorem CB.lt (x : CB) : x.b < 2 ^ 64 := by rw [← x.ok]; exact cbits_lt _
theorem CB.ext' {x y : CB} (h : x.b = y.b) : x = y := by cases x; cases y; simp only at h; subst h; rfl
theorem code_inj {x y : CB} (h : x.code = y.code) : x = y := CB.ext' (by rw [← x.ok, ← y.ok]; exact cbits_of_code h)
theorem cb_self (x : CB) : cb x.b = x := CB.ext' x.ok
instance : DecidableEq CB := fun x y => decidable_of_iff (x.code = y.code) ⟨code_inj, fun h => by rw [h]⟩

def strictC (l : List CB) : Prop := l.Pairwise fun x y => x.code < y.code
theorem strict_ext : ∀ {l l' : List CB}, strictC l → strictC l' → (∀ x, x ∈ l ↔ x ∈ l') → l = l'
 | [], [], _, _, _ => rfl
 | [], y :: t', _, _, h => by have := (h y).2 (by simp); simp at this
 | x :: t, [], _, _, h => by have := (h x).1 (by simp); simp at this
 | x :: t, y :: t', h1, h2, h => by
  obtain ⟨a1, a2⟩ := List.pairwise_cons.1 h1
  obtain ⟨b1, b2⟩ := List.pairwise_cons.1 h2
  have e : x = y := by
   rcases List.mem_cons.1 ((h x).1 (by simp)) with e | hx
   ·exact e
   ·rcases List.mem_cons.1 ((h y).2 (by simp)) with e | hy
    ·exact e.symm
    ·have := a1 y hy; have := b1 x hx; omega
  subst e
  congr 1
  refine strict_ext a2 b2 fun z => ⟨fun hz => ?_, fun hz => ?_⟩
  ·rcases List.mem_cons.1 ((h z).1 (by simp [hz])) with rfl | h3
   ·have := a1 _ hz; omega
   ·exact h3
  ·rcases List.mem_cons.1 ((h z).2 (by simp [hz])) with rfl | h3
   ·have := b1 _ hz; omega
   ·exact h3

def cfC (x y : CB) : Int := cmpI x.code y.code
theorem cfC_lt (x y : CB) : ltOf cfC x y = decide (x.code < y.code) := by
 unfold ltOf cfC cmpI
 by_cases h1 : x.code < y.code
 ·rw [if_pos h1]; simp [h1]
 ·rw [if_neg h1]
  by_cases h2 : y.code < x.code
  ·rw [if_pos h2]; simp [h1]
  ·rw [if_neg h2]; simp [h1]
theorem cfC_swo : SWO (ltOf cfC) := by
 refine ⟨fun x => ?_, fun x y z h1 h2 => ?_, fun x y z h1 h2 => ?_⟩
 ·rw [cfC_lt]; simp
 ·rw [cfC_lt, decide_eq_true_eq] at *; omega
 ·rw [cfC_lt, decide_eq_false_iff_not] at *; omega
theorem cfC_total (x y : CB) (h1 : ltOf cfC x y = false) (h2 : ltOf cfC y x = false) : x = y := by
 rw [cfC_lt, decide_eq_false_iff_not] at h1 h2
 exact code_inj (by omega)
def sortC (l : List CB) : List CB := l.mergeSort fun x y => !(ltOf cfC) y x
theorem sortC_len (l : List CB) : (sortC l).length = l.length := List.length_mergeSort _
theorem sortC_mem (l : List CB) (x : CB) : x ∈ sortC l ↔ x ∈ l := List.mem_mergeSort
def risesC (l : List CB) : Prop := l.Pairwise fun x y => x.code ≤ y.code
theorem sortC_rises (l : List CB) : risesC (sortC l) := by
 have h := List.pairwise_mergeSort (le := fun x y => !(ltOf cfC) y x) (fun a b c h1 h2 => by simp only [cfC_lt, Bool.not_eq_true', decide_eq_false_iff_not] at *; omega) (fun a b => by simp only [cfC_lt, Bool.or_eq_true, Bool.not_eq_true', decide_eq_false_iff_not]; omega) l
 refine h.imp fun {a b} h => ?_
 simp only [cfC_lt, Bool.not_eq_true', decide_eq_false_iff_not] at h
 omega

def dStep (acc : List CB) (x : CB) : List CB := if acc.getLast? = some x then acc else acc ++ [x]
def dd (l : List CB) : List CB := l.foldl dStep []
theorem dd_take {l : List CB} {i : Nat} {x : CB} (h : l[i]? = some x) : dd (l.take (i + 1)) = dStep (dd (l.take i)) x := by
 unfold dd
 rw [List.take_add_one, h, List.foldl_append]; rfl
theorem dStep_last (acc : List CB) (x : CB) : (dStep acc x).getLast? = some x := by
 unfold dStep
 split
 ·assumption
 ·simp
theorem dd_last {l : List CB} {i : Nat} {x : CB} (h : l[i]? = some x) : (dd (l.take (i + 1))).getLast? = some x := by rw [dd_take h]; exact dStep_last _ _
theorem dStep_len (acc : List CB) (x : CB) : (dStep acc x).length ≤ acc.length + 1 := by unfold dStep; split <;> simp
theorem dd_len (l : List CB) : (dd l).length ≤ l.length := by
 have key : ∀ (l acc : List CB), (l.foldl dStep acc).length ≤ acc.length + l.length := by
  intro l
  induction l with
  | nil => intro acc; exact Nat.le_refl _
  | cons x l ih =>
   intro acc
   have h1 := ih (dStep acc x)
   have h2 := dStep_len acc x
   show (l.foldl dStep (dStep acc x)).length ≤ _
   simp; omega
 have := key l []
 simpa [dd] using this
theorem dd_spec : ∀ (l acc : List CB), strictC acc → risesC l → (∀ x ∈ acc, ∀ y ∈ l, x.code ≤ y.code) → strictC (l.foldl dStep acc) ∧ ∀ x, x ∈ l.foldl dStep acc ↔ x ∈ acc ∨ x ∈ l
 | [], acc, hs, _, _ => ⟨hs, fun x => by simp⟩
 | s :: l, acc, hs, hr, hle => by
  obtain ⟨r1, r2⟩ := List.pairwise_cons.1 hr
  show strictC (l.foldl dStep (dStep acc s)) ∧ ∀ x, x ∈ l.foldl dStep (dStep acc s) ↔ _
  by_cases hl : acc.getLast? = some s
  ·have e : dStep acc s = acc := by unfold dStep; rw [if_pos hl]
   rw [e]
   obtain ⟨h1, h2⟩ := dd_spec l acc hs r2 fun x hx y hy => hle x hx y (by simp [hy])
   refine ⟨h1, fun x => ?_⟩
   rw [h2]
   have : s ∈ acc := List.mem_of_getLast? hl
   constructor
   ·rintro (h | h)
    ·exact .inl h
    ·exact .inr (by simp [h])
   ·rintro (h | h)
    ·exact .inl h
    ·rcases List.mem_cons.1 h with rfl | h
     ·exact .inl this
     ·exact .inr h
  ·have e : dStep acc s = acc ++ [s] := by unfold dStep; rw [if_neg hl]
   rw [e]
   have hlt : ∀ x ∈ acc, x.code < s.code := fun x hx => by
    have h1 := hle x hx s (by simp)
    rcases Int.lt_or_eq_of_le h1 with h | h
    ·exact h
    ·have hxs := code_inj h
     subst hxs
     exfalso
     rcases List.eq_nil_or_concat acc with h0 | ⟨p, z, h0⟩
     ·rw [h0] at hx; simp at hx
     ·rw [List.concat_eq_append] at h0
      have h2 : z.code ≤ x.code := hle z (by rw [h0]; simp) x (by simp)
      rw [h0] at hx hs hl
      rcases List.mem_append.1 hx with h3 | h3
      ·have := (List.pairwise_append.1 hs).2.2 x h3 z (by simp); omega
      ·rw [List.mem_singleton.1 h3] at hl; simp at hl
   obtain ⟨h1, h2⟩ := dd_spec l (acc ++ [s]) (List.pairwise_append.2 ⟨hs, List.pairwise_singleton _ _, fun x hx y hy => by rw [List.mem_singleton.1 hy]; exact hlt x hx⟩) r2 (fun x hx y hy => by
    rcases List.mem_append.1 hx with h | h
    ·exact hle x h y (by simp [hy])
    ·rw [List.mem_singleton.1 h]; exact r1 y hy)
   refine ⟨h1, fun x => ?_⟩
   rw [h2]; simp [or_assoc]
def fsort (xs : List Nat) : List CB := dd (sortC (xs.map cb))
theorem fsort_strict (xs : List Nat) : strictC (fsort xs) := (dd_spec _ [] List.Pairwise.nil (sortC_rises _) (fun _ h => by cases h)).1
theorem fsort_mem (xs : List Nat) (x : CB) : x ∈ fsort xs ↔ ∃ b ∈ xs, cb b = x := by
 unfold fsort dd
 rw [(dd_spec _ [] List.Pairwise.nil (sortC_rises _) (fun _ h => by cases h)).2 x, sortC_mem]
 simp

def iStep (x : CB) (p : List CB × Bool) (y : CB) : List CB × Bool :=
 ((if (decide (x.code < y.code) && !p.2) = true then p.1 ++ [x] else p.1) ++ [y], p.2 || decide (x.code ≤ y.code))
def iF (x : CB) (l : List CB) : List CB × Bool := l.foldl (iStep x) ([], false)
def iIns (l : List CB) (x : CB) : List CB := if (iF x l).2 = true then (iF x l).1 else (iF x l).1 ++ [x]
def rsort (xs : List Nat) : List CB := (xs.map cb).foldl iIns []
theorem iF_take {x : CB} {l : List CB} {k : Nat} {y : CB} (h : l[k]? = some y) : iF x (l.take (k + 1)) = iStep x (iF x (l.take k)) y := by
 unfold iF
 rw [List.take_add_one, h, List.foldl_append]; rfl
theorem iF_done (x : CB) : ∀ (l acc : List CB), l.foldl (iStep x) (acc, true) = (acc ++ l, true)
 | [], acc => by simp
 | y :: l, acc => by
  show l.foldl (iStep x) (iStep x (acc, true) y) = _
  rw [show iStep x (acc, true) y = (acc ++ [y], true) by simp [iStep], iF_done x l]
  simp
theorem iF_spec (x : CB) : ∀ (l acc : List CB), strictC (acc ++ l) → (∀ y ∈ acc, y.code < x.code) →
  strictC (if (l.foldl (iStep x) (acc, false)).2 = true then (l.foldl (iStep x) (acc, false)).1 else (l.foldl (iStep x) (acc, false)).1 ++ [x]) ∧
  ∀ z, z ∈ (if (l.foldl (iStep x) (acc, false)).2 = true then (l.foldl (iStep x) (acc, false)).1 else (l.foldl (iStep x) (acc, false)).1 ++ [x]) ↔ z ∈ acc ∨ z ∈ l ∨ z = x
 | [], acc, hs, ha => by
  simp only [List.foldl_nil]
  rw [List.append_nil] at hs
  refine ⟨?_, fun z => by simp⟩
  exact List.pairwise_append.2 ⟨hs, List.pairwise_singleton _ _, fun y hy z hz => by rw [List.mem_singleton.1 hz]; exact ha y hy⟩
 | y :: l, acc, hs, ha => by
  show strictC (if (l.foldl (iStep x) (iStep x (acc, false) y)).2 = true then (l.foldl (iStep x) (iStep x (acc, false) y)).1 else _) ∧ ∀ z, z ∈ (if (l.foldl (iStep x) (iStep x (acc, false) y)).2 = true then (l.foldl (iStep x) (iStep x (acc, false) y)).1 else _) ↔ _
  by_cases h1 : x.code < y.code
  ·have e : iStep x (acc, false) y = (acc ++ [x] ++ [y], true) := by unfold iStep; rw [if_pos (by simp [h1])]; simp; omega
   simp only [List.foldl_cons]
   rw [e, iF_done, if_pos rfl]
   have hs' := List.pairwise_append.1 hs
   obtain ⟨t1, t2⟩ := List.pairwise_cons.1 hs'.2.1
   refine ⟨?_, fun z => ?_⟩
   ·show strictC (acc ++ [x] ++ [y] ++ l)
    rw [show acc ++ [x] ++ [y] ++ l = acc ++ x :: y :: l by simp]
    refine List.pairwise_append.2 ⟨hs'.1, List.pairwise_cons.2 ⟨fun z hz => ?_, hs'.2.1⟩, fun z hz u hu => ?_⟩
    ·rcases List.mem_cons.1 hz with rfl | hz
     ·exact h1
     ·have := t1 z hz; omega
    ·rcases List.mem_cons.1 hu with rfl | hu
     ·exact ha z hz
     ·exact hs'.2.2 z hz u hu
   ·simp [or_assoc]
    constructor
    ·rintro (h | h | h | h)
     ·exact .inl h
     ·exact .inr (.inr (.inr h))
     ·exact .inr (.inl h)
     ·exact .inr (.inr (.inl h))
    ·rintro (h | h | h | h)
     ·exact .inl h
     ·exact .inr (.inr (.inl h))
     ·exact .inr (.inr (.inr h))
     ·exact .inr (.inl h)
  ·by_cases h2 : x.code = y.code
   ·have hxy := code_inj h2
    subst hxy
    have e : iStep x (acc, false) x = (acc ++ [x], true) := by unfold iStep; simp
    simp only [List.foldl_cons]
    rw [e, iF_done, if_pos rfl]
    refine ⟨by show strictC (acc ++ [x] ++ l); rw [List.append_assoc]; exact hs, fun z => ?_⟩
    simp
    constructor
    ·rintro (h | h | h)
     ·exact .inl h
     ·exact .inr (.inr h)
     ·exact .inr (.inl (.inr h))
    ·rintro (h | (h | h) | h)
     ·exact .inl h
     ·exact .inr (.inl h)
     ·exact .inr (.inr h)
     ·exact .inr (.inl h)
   ·have e : iStep x (acc, false) y = (acc ++ [y], false) := by unfold iStep; rw [if_neg (by simp [h1])]; simp; omega
    simp only [List.foldl_cons]
    rw [e]
    obtain ⟨g1, g2⟩ := iF_spec x l (acc ++ [y]) (by rw [List.append_assoc]; exact hs) (fun z hz => by
     rcases List.mem_append.1 hz with h | h
     ·exact ha z h
     ·rw [List.mem_singleton.1 h]; omega)
    refine ⟨g1, fun z => ?_⟩
    rw [g2]; simp [or_assoc]
theorem iIns_spec (l : List CB) (x : CB) (h : strictC l) : strictC (iIns l x) ∧ ∀ z, z ∈ iIns l x ↔ z ∈ l ∨ z = x := by
 obtain ⟨h1, h2⟩ := iF_spec x l [] h (fun _ h => by cases h)
 refine ⟨h1, fun z => ?_⟩
 exact (h2 z).trans (by simp)
theorem rsort_spec : ∀ (l acc : List CB), strictC acc → strictC (l.foldl iIns acc) ∧ ∀ x, x ∈ l.foldl iIns acc ↔ x ∈ acc ∨ x ∈ l
 | [], acc, h => ⟨h, fun x => by simp⟩
 | s :: l, acc, h => by
  obtain ⟨a, b⟩ := iIns_spec acc s h
  obtain ⟨c, d⟩ := rsort_spec l (iIns acc s) a
  refine ⟨c, fun x => ?_⟩
  show x ∈ l.foldl iIns (iIns acc s) ↔ _
  rw [d, b]; simp [or_assoc]
theorem sort_same (xs : List Nat) : rsort xs = fsort xs := by
 obtain ⟨h1, h2⟩ := rsort_spec (xs.map cb) [] List.Pairwise.nil
 refine strict_ext h1 (fsort_strict xs) fun x => ?_
 unfold rsort
 rw [h2, fsort_mem]; simp
theorem rsort_take {xs : List Nat} {i : Nat} {b : Nat} (h : xs[i]? = some b) : rsort (xs.take (i + 1)) = iIns (rsort (xs.take i)) (cb b) := by
 unfold rsort
 rw [List.take_add_one, h, List.map_append, List.foldl_append]; rfl
end Go.Proofs.YtekmadgacepdfaaGreat.K
