/- Several texts as one: NA NB NR NRN NT NU. -/
import Derived.Test.YtfbachckdadhoaaGreatQ0
import Derived.Test.YtfbachckdadhoaaGreatNP
import Derived.Test.YtfbachckdadhoaaGreatMV
import Derived.OneCell
import Derived.Test.YtfbachckdadhoaaGreatMFL
import Derived.Test.YtfbachckdadhoaaGreatMR
import Derived.Test.YtfbachckdadhoaaGreatMB
import Derived.Deep.CutBlock
import Derived.Test.YtfbachckdadhoaaGreatMNL
namespace Go.Proofs.YtfbachckdadhoaaGreat.N
set_option linter.unusedVariables false
open Go.RowKit Fl

def enc (k : RK) : List Value := [.float .f64 k.lo.bits, .float .f64 k.hi.bits, .bool false, .bool false]
theorem enc_len (k : RK) : (enc k).length = 4 := rfl
theorem enc_one (k : RK) : ∀ u ∈ enc k, u.oneCell' = true := by intro u hu; simp [enc] at hu; rcases hu with rfl | rfl | rfl <;> rfl
def sCells (l : List RK) : List Value := l.flatMap enc
theorem sCells_len (l : List RK) : (sCells l).length = l.length * 4 := flat_len enc_len l
theorem spanInfo : (Tryz.prog.info? 87).map (fun i => (i.zero, i.size, i.bytes)) = some (some (.agg #[.float .f64 0, .float .f64 0, .bool false, .bool false]), 4, 24) := by kernel_rfl
theorem cell_row {w : World} {g : Nat} {cur : Array Value} {t : TypeId} (h : w.heap[g]? = some (.cells cur t (0, 0))) (j : Nat) : w.cell? ⟨g, j, none⟩ = cur[j]? := cell_of_row w g j cur t (0, 0) h
theorem addr0 (g j : Nat) : (⟨g, 0, none⟩ : Addr).add j = ⟨g, j, none⟩ := by rw [Addr.add_lit, Nat.zero_add]
theorem grown_of_below {w w' : World} (h : Below w.heap.size w w') : w.grownBy w' none := ⟨h.os, h.tape, h.output, h.size, fun k hk _ => h.block k hk⟩
theorem own_le {w : World} {base base' size n : Nat} {e : TypeId} {v : Value} {xs : List Value} (h : w.ownsRow base e size v n xs) (hb : base' ≤ base) : w.ownsRow base' e size v n xs :=
 ⟨h.1, h.2.imp id fun ⟨g, cap, cur, h1, h2, h3⟩ => ⟨g, cap, cur, h1, Nat.le_trans hb h2, h3⟩⟩
theorem own_slice {w : World} {B : Nat} {v : Value} {l : List RK} (h : w.ownsRow B 87 4 v l.length (sCells l)) : ∃ va vc, v = .slice va l.length vc := by
 rcases h.2 with ⟨rfl, h0⟩ | ⟨g, cap, cur, rfl, _⟩
 ·have := sCells_len l
  rw [h0] at this; simp at this
  exact ⟨none, 0, by rw [show l.length = 0 by omega]⟩
 ·exact ⟨_, _, rfl⟩
theorem app1 {W0 w : World} {base : Nat} {a : Option Addr} {c : Nat} {l : List RK} (x : RK) (hb : Below base W0 w) (hown : w.ownsRow base 87 4 (.slice a l.length c) l.length (sCells l)) (hbase : base ≤ w.heap.size) (hl : l.length ≤ 5864062014804) :
  ∃ a' c' w', (∀ ty, (Builtin.append_ #[30, 30] ty #[.slice a l.length c, .slice (some ⟨w.heap.size, 0, none⟩) 1 1]).run Tryz.prog (w.alloc (.cells #[.float .f64 x.lo.bits, .float .f64 x.hi.bits, .bool false, .bool false] 87)) = .ok (.slice a' (l.length + 1) c') w') ∧
   w'.ownsRow base 87 4 (.slice a' (l.length + 1) c') (l.length + 1) (sCells (l ++ [x])) ∧ Below base W0 w' := by
 obtain ⟨i0, hi0, hz0, hzs, hzb⟩ := info_parts spanInfo
 have hb1 : Below w.heap.size w (w.alloc (.cells #[.float .f64 x.lo.bits, .float .f64 x.hi.bits, .bool false, .bool false] 87)) := by exact below_auto
 have hown1 := hown.kept (grown_of_below hb1) (by cases (Value.slice a l.length c).ownBlock <;> simp)
 obtain ⟨v', w', hr, h2, h3⟩ := run_append_own2 (P := Tryz.prog) (w.alloc (.cells #[.float .f64 x.lo.bits, .float .f64 x.hi.bits, .bool false, .bool false] 87)) base 30 87 i0 _ 4 24 Tryz.underlying30 hi0 hz0 hzs hzb rfl (by omega) _ _ _ hown1 ⟨w.heap.size, 0, none⟩ 1 1 (enc x) rfl
  (fun j u hj => by
   have hrow : (w.alloc (.cells #[.float .f64 x.lo.bits, .float .f64 x.hi.bits, .bool false, .bool false] 87)).heap[w.heap.size]? = some (.cells #[.float .f64 x.lo.bits, .float .f64 x.hi.bits, .bool false, .bool false] 87 (0, 0)) := heap_alloc_new w _
   rw [addr0, cell_row hrow]
   rw [← hj]; simp [enc]) (enc_one x) (by omega) (by unfold maxLen; omega) (by omega) (by simp; omega)
 have hc : sCells l ++ enc x = sCells (l ++ [x]) := by simp [sCells]
 rw [hc] at h2
 have hlen : (l ++ [x]).length = l.length + 1 := by simp
 rw [← hlen] at h2
 obtain ⟨a', c', rfl⟩ := own_slice h2
 rw [hlen] at h2 hr
 exact ⟨a', c', w', hr, h2, ((hb.trans (hb1.mono hbase)).grown h3.1 (by simp; omega) (fun k hk => (hown.lt k hk).1))⟩
theorem own_set4 {w : World} {base g cv p : Nat} {l : List RK} {y : RK} (z : RK) (hp : l.length = p) (h : w.ownsRow base 87 4 (.slice (some ⟨g, 0, none⟩) (p + 1) cv) (p + 1) (sCells (l ++ [y]))) :
  ((((w.setCell ⟨g, p * 4, none⟩ (.float .f64 z.lo.bits)).setCell ⟨g, p * 4 + 1, none⟩ (.float .f64 z.hi.bits)).setCell ⟨g, p * 4 + 2, none⟩ (.bool false)).setCell ⟨g, p * 4 + 3, none⟩ (.bool false)).ownsRow base 87 4 (.slice (some ⟨g, 0, none⟩) (p + 1) cv) (p + 1) (sCells (l ++ [z])) ∧
  w.grownBy ((((w.setCell ⟨g, p * 4, none⟩ (.float .f64 z.lo.bits)).setCell ⟨g, p * 4 + 1, none⟩ (.float .f64 z.hi.bits)).setCell ⟨g, p * 4 + 2, none⟩ (.bool false)).setCell ⟨g, p * 4 + 3, none⟩ (.bool false)) (some g) := by
 rcases h.2 with ⟨h1, _⟩ | ⟨g', cap, cur, h1, hbase, hb, hnc, hcm, hcs, htake⟩
 ·cases h1
 ·cases h1
  rw [setCell_eq_setRow w g (p * 4) _ _ _ _ hb]
  have hb1 := setRow_heap w g cur (cur.setIfInBounds (p * 4) (.float .f64 z.lo.bits)) 87 (0, 0) hb
  rw [setCell_eq_setRow _ g (p * 4 + 1) _ _ _ _ hb1]
  have hb2 := setRow_heap _ g _ ((cur.setIfInBounds (p * 4) (.float .f64 z.lo.bits)).setIfInBounds (p * 4 + 1) (.float .f64 z.hi.bits)) 87 (0, 0) hb1
  rw [setCell_eq_setRow _ g (p * 4 + 2) _ _ _ _ hb2]
  have hb3 := setRow_heap _ g _ (((cur.setIfInBounds (p * 4) (.float .f64 z.lo.bits)).setIfInBounds (p * 4 + 1) (.float .f64 z.hi.bits)).setIfInBounds (p * 4 + 2) (.bool false)) 87 (0, 0) hb2
  rw [setCell_eq_setRow _ g (p * 4 + 3) _ _ _ _ hb3]
  have hb4 := setRow_heap _ g _ ((((cur.setIfInBounds (p * 4) (.float .f64 z.lo.bits)).setIfInBounds (p * 4 + 1) (.float .f64 z.hi.bits)).setIfInBounds (p * 4 + 2) (.bool false)).setIfInBounds (p * 4 + 3) (.bool false)) 87 (0, 0) hb3
  refine ⟨⟨?_, .inr ⟨g, cv, _, rfl, hbase, hb4, hnc, hcm, by simpa using hcs, ?_⟩⟩, ((grownBy_setRow w g _).trans (grownBy_setRow _ g _)).trans ((grownBy_setRow _ g _).trans (grownBy_setRow _ g _))⟩
  ·rw [sCells_len, List.length_append, hp]; rfl
  ·have hl0 : (sCells l).length = p * 4 := by rw [sCells_len, hp]
   have hl1 : (sCells (l ++ [y])).length = (p + 1) * 4 := by rw [sCells_len, List.length_append, hp]; rfl
   have e0 : sCells (l ++ [y]) = sCells l ++ enc y := by simp [sCells]
   have e1 : sCells (l ++ [z]) = sCells l ++ enc z := by simp [sCells]
   rw [e1]
   rw [e0] at htake
   have hsz : (p + 1) * 4 ≤ cur.size := by rw [hcs]; exact Nat.mul_le_mul_right _ hnc
   apply List.ext_getElem?
   intro j
   by_cases hj : j < (p + 1) * 4
   ·have h3 : (cur.toList.take ((p + 1) * 4))[j]? = (sCells l ++ enc y)[j]? := by rw [htake]
    rw [List.getElem?_take_of_lt hj] at h3
    rw [List.getElem?_take_of_lt hj]
    simp only [Array.toList_setIfInBounds, List.getElem?_set, List.length_set, Array.length_toList]
    by_cases hj2 : j < p * 4
    ·rw [List.getElem?_append_left (by omega)] at h3 ⊢
     rw [if_neg (by omega), if_neg (by omega), if_neg (by omega), if_neg (by omega)]
     exact h3
    ·rw [List.getElem?_append_right (by omega), hl0]
     have hc : j = p * 4 ∨ j = p * 4 + 1 ∨ j = p * 4 + 2 ∨ j = p * 4 + 3 := by omega
     rcases hc with rfl | rfl | rfl | rfl
     ·rw [if_neg (by omega), if_neg (by omega), if_neg (by omega), if_pos rfl, if_pos (by omega)]; simp [enc]
     ·rw [if_neg (by omega), if_neg (by omega), if_pos rfl, if_pos (by omega), show p * 4 + 1 - p * 4 = 1 by omega]; simp [enc]
     ·rw [if_neg (by omega), if_pos rfl, if_pos (by omega), show p * 4 + 2 - p * 4 = 2 by omega]; simp [enc]
     ·rw [if_pos rfl, if_pos (by omega), show p * 4 + 3 - p * 4 = 3 by omega]; simp [enc]
   ·have hlz : (enc z).length = 4 := rfl
    rw [List.getElem?_take_eq_none (by omega), List.getElem?_eq_none (by rw [List.length_append, hl0, hlz]; omega)]
end Go.Proofs.YtfbachckdadhoaaGreat.N
namespace Go.Proofs.YtfbachckdadhoaaGreat.N
set_option linter.unusedVariables false
set_option linter.unusedSimpArgs false
open Go.RowKit Fl

def fO (s : SpanV) : List RK := match s.rg with
 | none => []
 | some (l, h) => if le : l.v ≤ h.v then [⟨l, h, le⟩] else []
def forms (ss : List SpanV) : List RK := ss.flatMap fO
theorem fO_none {s : SpanV} (h : canonS s.lo s.hi s.a s.b = none) : fO s = [] := by
 have h' : s.rg = none := h
 unfold fO; rw [h']
theorem fO_some {s : SpanV} {l h : Key} (e : canonS s.lo s.hi s.a s.b = some (l, h)) : fO s = [⟨l, h, canonS_le e⟩] := by
 have h' : s.rg = some (l, h) := e
 unfold fO; rw [h']
 exact dif_pos (canonS_le e)
theorem forms_snoc {ss : List SpanV} {i : Nat} {s : SpanV} (h : ss[i]? = some s) : forms (ss.take (i + 1)) = forms (ss.take i) ++ fO s := by
 unfold forms
 rw [List.take_add_one, h, List.flatMap_append]
 simp
theorem fO_le (s : SpanV) : (fO s).length ≤ 1 := by
 unfold fO
 split
 ·exact Nat.zero_le _
 ·split <;> simp
theorem forms_le : ∀ ss : List SpanV, (forms ss).length ≤ ss.length
 | [] => Nat.le_refl _
 | s :: ss => by
  have h1 := forms_le ss
  have h2 := fO_le s
  show (fO s ++ forms ss).length ≤ ss.length + 1
  rw [List.length_append]; omega
theorem forms_take_le (ss : List SpanV) (i : Nat) : (forms (ss.take i)).length ≤ ss.length := Nat.le_trans (forms_le _) (by rw [List.length_take]; omega)
theorem joinL_len : ∀ (l : List RK) (s : RK), (joinL l s).length ≤ l.length + 1
 | [], _ => Nat.le_refl _
 | [x], s => by unfold joinL; split <;> simp
 | x :: y :: t, s => by
  have := joinL_len (y :: t) s
  show (joinL (y :: t) s).length + 1 ≤ _
  simp at this ⊢; omega
theorem joinAll_take {l : List RK} {i : Nat} {x : RK} (h : l[i]? = some x) : joinAll [] (l.take (i + 1)) = joinL (joinAll [] (l.take i)) x := by
 unfold joinAll
 rw [List.take_add_one, h, List.foldl_append]; rfl
theorem joinAll_lo (z : Int) : ∀ (l acc : List RK), gapped acc → risesLo l → (∀ x ∈ acc, ∀ y ∈ l, x.lo.v ≤ y.lo.v) → (∀ y ∈ l, y.lo.v ≤ z) → (∀ x ∈ acc, x.lo.v ≤ z) → ∀ x ∈ joinAll acc l, x.lo.v ≤ z
 | [], _, _, _, _, _, h => h
 | s :: l, acc, hg, hr, hle, hz, ha => by
  obtain ⟨r1, r2⟩ := List.pairwise_cons.1 hr
  obtain ⟨a, _, c, _⟩ := joinL_spec acc s hg fun x hx => hle x hx s (by simp)
  exact joinAll_lo z l (joinL acc s) a r2 (fun x hx y hy => Int.le_trans (c x hx) (r1 y hy)) (fun y hy => hz y (by simp [hy])) (fun x hx => Int.le_trans (c x hx) (hz s (by simp)))
theorem joinAll_le {l : List RK} (hr : risesLo l) {j : Nat} {x : RK} (hx : l[j]? = some x) : ∀ y ∈ joinAll [] (l.take j), y.lo.v ≤ x.lo.v := by
 refine joinAll_lo x.lo.v (l.take j) [] List.Pairwise.nil (hr.sublist (List.take_sublist _ _)) (fun _ h => by cases h) (fun y hy => ?_) (fun _ h => by cases h)
 obtain ⟨i, hi, rfl⟩ := List.mem_take_iff_getElem.1 hy
 obtain ⟨hj, rfl⟩ := List.getElem?_eq_some_iff.1 hx
 exact List.pairwise_iff_getElem.1 hr i j (by omega) hj (by omega)
theorem joinL_snoc (p : List RK) (y s : RK) : joinL (p ++ [y]) s = p ++ joinL [y] s := by
 induction p with
 | nil => rfl
 | cons x t ih =>
  cases t with
  | nil => rfl
  | cons z t =>
   show x :: joinL (z :: (t ++ [y])) s = x :: (z :: t ++ joinL [y] s)
   rw [← ih]; rfl
theorem next_lt (h l : Key) : flt (knext h).bits l.bits = decide (h.v + 1 < l.v) := by
 rw [flt_kk]
 by_cases e : h.v = (inf : Int)
 ·have := l.hi
  have e2 : (knext h).v = h.v := by simp [knext, e]
  rw [e2, decide_eq_decide]; omega
 ·rw [knext_v e]
theorem join_last (y s : RK) (hlo : y.lo.v ≤ s.lo.v) (b : Bool) (hb : decide (y.hi.v + 1 < s.lo.v) = b) (w : World) :
  (b = true → joinL [y] s = [y, s] ∧ Calls Tryz.prog 149 #[.agg #[.float .f64 y.lo.bits, .float .f64 y.hi.bits, .bool false, .bool false], .agg #[.float .f64 s.lo.bits, .float .f64 s.hi.bits, .bool false, .bool false]] w (Ret (.tuple #[.agg #[.float .f64 0, .float .f64 0, .bool true, .bool true], .bool false]) w)) ∧
  (b = false → ∃ z : RK, joinL [y] s = [z] ∧ ∀ w : World, Calls Tryz.prog 149 #[.agg #[.float .f64 y.lo.bits, .float .f64 y.hi.bits, .bool false, .bool false], .agg #[.float .f64 s.lo.bits, .float .f64 s.hi.bits, .bool false, .bool false]] w (Ret (.tuple #[.agg #[.float .f64 z.lo.bits, .float .f64 z.hi.bits, .bool false, .bool false], .bool true]) w)) := by
 have hy := y.le
 have hs := s.le
 constructor
 ·rintro rfl
  have h1 : y.hi.v + 1 < s.lo.v := by simpa using hb
  refine ⟨by unfold joinL; rw [if_pos h1], ?_⟩
  exact join_ssA _ _ _ _ _ _ _ _ w (Key.bits_lt _) (Key.bits_lt _) (Key.bits_lt _) (Key.bits_lt _) y.lo y.hi (hid (canonS_canon _ _ hy)) s.lo s.hi (hid (canonS_canon _ _ hs)) (by rw [next_lt]; exact hb)
 ·rintro rfl
  have h1 : ¬ y.hi.v + 1 < s.lo.v := by simpa using hb
  refine ⟨⟨kLeast y.lo s.lo, kMost y.hi s.hi, by rw [kLeast_v, kMost_v]; split <;> split <;> omega⟩, ?_, fun w => ?_⟩
  ·unfold joinL
   rw [if_neg h1]
   congr 1
  ·exact join_ssC _ _ _ _ _ _ _ _ w (Key.bits_lt _) (Key.bits_lt _) (Key.bits_lt _) (Key.bits_lt _) y.lo y.hi (hid (canonS_canon _ _ hy)) s.lo s.hi (hid (canonS_canon _ _ hs)) (by rw [next_lt]; exact hb) (by rw [next_lt]; simp; omega)
theorem joinAll_len (l : List RK) : ∀ acc : List RK, (joinAll acc l).length ≤ acc.length + l.length := by
 induction l with
 | nil => intro acc; exact Nat.le_refl _
 | cons x t ih =>
  intro acc
  have h1 := ih (joinL acc x)
  have h2 := joinL_len acc x
  show (joinAll (joinL acc x) t).length ≤ _
  simp; omega

def NormRet (w : World) (l : List RK) (e : Ending) (w' : World) : Prop :=
 ∃ a c, e = .returned (.slice a l.length c) ∧ w'.ownsRow w.heap.size 87 4 (.slice a l.length c) l.length (sCells l) ∧ Below w.heap.size w w'

def SortForms (S : List RK → List RK) : Prop := ∀ (w : World) (base : Nat) (a : Option Addr) (c : Nat) (l : List RK), w.ownsRow base 87 4 (.slice a l.length c) l.length (sCells l) → l.length < 4611686018427387904 →
  Calls Tryz.prog 148 #[.slice a l.length c, .func (.func 134) #[] #[]] w fun e w' => e = .returned (.tuple #[]) ∧
   w'.ownsRow base 87 4 (.slice a l.length c) l.length (sCells (S l)) ∧ w.grownBy w' (Value.slice a l.length c).ownBlock

set_option maxHeartbeats 1000000 in
set_option maxRecDepth 100000 in
theorem norm_of (S : List RK → List RK) (hSl : ∀ l, (S l).length = l.length) (hSr : ∀ l, risesLo (S l)) (SF : SortForms S) (a : Option Addr) (c : Nat) (ss : List SpanV) (n : Nat) (w : World) (hn : ss.length = n) (h : SAt w a ss) (hlen : n ≤ 5864062014634) :
  Calls Tryz.prog 102 #[.slice a n c] w (NormRet w (joinAll [] (S (forms ss)))) := by
 have HN := hid hn; have HS := hid h
 have HF := hid fun i => forms_take_le ss i
 have HT : Hid (forms (ss.take n) = forms ss) := hid (by rw [← hn, List.take_length])
 have hown0 : w.ownsRow w.heap.size 87 4 (.slice none 0 0) 0 [] := ⟨rfl, .inl ⟨rfl, rfl⟩⟩
 have H0 := hid hown0
 clear hn h hown0
 go_enter Tryz.func102, Tryz.ntmps102
 go_wp2
 go_loopw [13, 3] (fun iv uv wr => ∃ (i : Nat) (u : Option Addr) (cu : Nat), i ≤ n ∧ iv = .int .i64 i ∧ uv = .slice u (forms (ss.take i)).length cu ∧ Hid (wr.ownsRow w.heap.size 87 4 (.slice u (forms (ss.take i)).length cu) (forms (ss.take i)).length (sCells (forms (ss.take i)))) ∧ Below w.heap.size w wr) (fun iv _ _ => n - (intOf iv).toNat)
 case atStart => exact ⟨0, none, 0, Nat.zero_le _, rfl, rfl, H0, Below.refl _ _⟩
 case round =>
  obtain ⟨i, u, cu, hin, rfl, rfl, HO, hb⟩ := hrel
  have hz := hb.size
  by_cases hlt : i < n
  ·have hlt' : (i : Int) < (n : Int) := by omega
   have hil : i < ss.length := by rw [HN.out]; exact hlt
   have hx := hid (sp_some hil)
   obtain ⟨l1, l2⟩ := HS.out.lt i hil
   have hrow := HS.out.row
   rcases hrow with h0 | ⟨g, o, rfl, hg, hcs⟩
   ·rw [h0] at hil; simp at hil
   obtain ⟨c0, c1, c2, c3⟩ := hcs i hil
   have kk := fun j => hb.cell (p := ⟨g, j, none⟩) hg
   have d0 := (kk _).trans c0; have d1 := (kk _).trans c1; have d2 := (kk _).trans c2; have d3 := (kk _).trans c3
   have hle := HF.out i
   rw [HN.out] at hle
   clear c0 c1 c2 c3 kk hcs hil
   generalize ss[i]?.getD default = s at *
   have hgw : g < wr.heap.size := by omega
   rcases hr : canonS s.lo s.hi s.a s.b with _ | ⟨l, h⟩
   ·have hs := forms_snoc hx.out
    rw [fO_none hr, List.append_nil] at hs
    have HR := hid hs
    have HRR := hid hr
    clear hs hr
    go_wp2_with (go_at_call 144; (with_reducible refine (canon_isN s.lo s.hi s.a s.b _ l1 l2 HRR).mono ?_); rintro e w1 ⟨rfl, hb1⟩; refine mB hb1 ?_; intro hc1 hf1 hz1; intros; (try have hu1_wr_0 : wr.heap.size < w1.heap.size := by omega); (try have hu1_wr_1 : wr.heap.size + 1 < w1.heap.size := by omega))
    go_roundw
    case rel => exact ⟨i + 1, u, cu, by omega, by go_num, by rw [HR.out], hid (by rw [HR.out]; exact HO.out.kept (grown_of_below (w := wr) (by exact below_auto)) (by cases (Value.slice u (forms (ss.take i)).length cu).ownBlock <;> simp)), by exact below_auto⟩
    case measure => simp [intOf]; omega
   ·obtain ⟨x, rfl, rfl, hfx⟩ : ∃ x : RK, x.lo = l ∧ x.hi = h ∧ fO s = [x] := ⟨⟨l, h, canonS_le hr⟩, rfl, rfl, fO_some hr⟩
    have hs := forms_snoc hx.out
    rw [hfx] at hs
    have HR := hid hs
    have HRR := hid hr
    clear hs hr hfx
    go_upto_region 7 with (go_at_call 144; (with_reducible refine (canon_isS s.lo s.hi s.a s.b x.lo x.hi _ l1 l2 HRR).mono ?_); rintro e w1 ⟨rfl, hb1⟩; refine mB hb1 ?_; intro hc1 hf1 hz1; intros; (try have hu1_wr_0 : wr.heap.size < w1.heap.size := by omega); (try have hu1_wr_1 : wr.heap.size + 1 < w1.heap.size := by omega))
    (generalize hW5 : World.setCell _ _ _ = w5; have hB5 : Below w.heap.size w w5 := (by rw [← hW5]; exact below_auto); have hC5 : Below wr.heap.size wr w5 := (by rw [← hW5]; exact below_auto); have hS5 : wr.heap.size < w5.heap.size := (by rw [← hW5]; first | (simp [go_sem]; done) | (simp [go_sem]; omega)); have cx5_0 := congrArg (fun W => W.cell? ⟨wr.heap.size, 0, none⟩) hW5.symm; have fx5_0 := congrArg (fun W => W.frozen? ⟨wr.heap.size, 0, none⟩) hW5.symm; have cx5_1 := congrArg (fun W => W.cell? ⟨wr.heap.size, 1, none⟩) hW5.symm; have fx5_1 := congrArg (fun W => W.frozen? ⟨wr.heap.size, 1, none⟩) hW5.symm; have cx5_2 := congrArg (fun W => W.cell? ⟨wr.heap.size, 2, none⟩) hW5.symm; have fx5_2 := congrArg (fun W => W.frozen? ⟨wr.heap.size, 2, none⟩) hW5.symm; have cx5_3 := congrArg (fun W => W.cell? ⟨wr.heap.size, 3, none⟩) hW5.symm; have fx5_3 := congrArg (fun W => W.frozen? ⟨wr.heap.size, 3, none⟩) hW5.symm; clear hW5; simp [go_sem, *] at cx5_0; simp [go_sem, *] at fx5_0; simp [go_sem, *] at cx5_1; simp [go_sem, *] at fx5_1; simp [go_sem, *] at cx5_2; simp [go_sem, *] at fx5_2; simp [go_sem, *] at cx5_3; simp [go_sem, *] at fx5_3)
    have hown := HO.out.kept (grown_of_below hC5) (by cases (Value.slice u (forms (ss.take i)).length cu).ownBlock <;> simp)
    clear hb1 hc1 hf1 hz1 hu1_wr_0
    (try clear hy1_0 hx1_0 hx1_1)
    obtain ⟨a', c', w', hr, ho', hb'⟩ := app1 x hB5 hown hB5.size (by omega)
    have HO' := hid ho'
    clear ho' hown
    go_wp2_with (at_builtin; refine Lib.wpList_append_run _ rfl _ _ _ _ rfl _ _ rfl rfl _ _ (hr _) ?_)
    go_roundw
    case rel => exact ⟨i + 1, a', c', by omega, by go_num, by rw [HR.out]; simp, hid (by rw [HR.out, List.length_append]; exact HO'.out), hb'⟩
    case measure => simp [intOf]; omega
  ·obtain rfl : i = n := by omega
   have HO1 := HO.out
   have hle := HF.out i
   rw [HN.out] at hle
   rw [HT.out] at HO1 hle ⊢
   have hl2 := hSl (forms ss)
   have hr2 := hSr (forms ss)
   clear HT HF HO HS H0
   generalize forms ss = F at *
   have H := SF wr w.heap.size u cu F HO1 (by omega)
   go_wp2_with (go_at_call 148; refine H.mono ?_; rintro e w1 ⟨rfl, hown1, hg1⟩)
   clear H
   have hb1 : Below w.heap.size w w1 := hb.grown hg1 hz (fun k hk => (HO1.lt k hk).1)
   have hz1 := hb1.size
   generalize S F = G at *
   generalize F.length = m at *
   have HG := hid hr2
   have HL := hid hl2
   have HC : Hid (∀ wr, Below w1.heap.size w1 wr → ∀ j, j < m → ∃ g, u = some ⟨g, 0, none⟩ ∧ g < wr.heap.size ∧ wr.cell? ⟨g, j * 4, none⟩ = some (.float .f64 (G[j]?.getD default).lo.bits) ∧ wr.cell? ⟨g, j * 4 + 1, none⟩ = some (.float .f64 (G[j]?.getD default).hi.bits) ∧ wr.cell? ⟨g, j * 4 + 2, none⟩ = some (.bool false) ∧ wr.cell? ⟨g, j * 4 + 3, none⟩ = some (.bool false)) := hid fun wr hbw j hj => by
    rcases hown1.2 with ⟨h1, h2⟩ | ⟨g, cap, cur, h1, _⟩
    ·omega
    ·cases h1
     have hcl := hown1.cells (g := g) rfl
     have hgl := (hown1.lt g rfl).2
     have hx : G[j]? = some (G[j]?.getD default) := by rw [List.getElem?_eq_getElem (by omega)]; rfl
     have := hbw.size
     have q := fun t (ht : t < 4) => flat_get enc_len hx ht
     have at' : ∀ t v, t < 4 → (enc (G[j]?.getD default))[t]? = some v → wr.cell? ⟨g, j * 4 + t, none⟩ = some v := fun t v ht hv => (hbw.cell (p := ⟨g, j * 4 + t, none⟩) hgl).trans ((by rw [← addr0]; exact hcl _ v ((q t ht).trans hv)))
     exact ⟨g, rfl, by omega, at' 0 _ (by omega) rfl, at' 1 _ (by omega) rfl, at' 2 _ (by omega) rfl, at' 3 _ (by omega) rfl⟩
   have h00 : Hid (w1.ownsRow w1.heap.size 87 4 (.slice none 0 0) 0 []) := hid ⟨rfl, .inl ⟨rfl, rfl⟩⟩
   clear hg1 hr2 hl2 hown1 HO1
   go_wp2
   go_loopw [31, 4] (fun iv uv w2 => ∃ (j : Nat) (v : Option Addr) (cv : Nat), j ≤ m ∧ iv = .int .i64 j ∧ uv = .slice v (joinAll [] (G.take j)).length cv ∧ Hid (w2.ownsRow w1.heap.size 87 4 (.slice v (joinAll [] (G.take j)).length cv) (joinAll [] (G.take j)).length (sCells (joinAll [] (G.take j)))) ∧ Below w1.heap.size w1 w2) (fun iv _ _ => m - (intOf iv).toNat)
   case atStart => exact ⟨0, none, 0, Nat.zero_le _, rfl, rfl, h00, Below.refl _ _⟩
   case round =>
    obtain ⟨j, v, cv, hjm, rfl, rfl, HO2, hb2⟩ := hrel
    have hz2 := hb2.size
    have hjl := joinAll_len (G.take j) []
    rw [List.length_take, HL.out] at hjl
    simp only [List.length_nil, Nat.zero_add] at hjl
    by_cases hlt : j < m
    ·have hlt' : (j : Int) < (m : Int) := by omega
     obtain ⟨g, rfl, hgw, d0, d1, d2, d3⟩ := HC.out wr hb2 j hlt
     have hx : G[j]? = some (G[j]?.getD default) := by rw [List.getElem?_eq_getElem (by rw [HL.out]; omega)]; rfl
     generalize G[j]?.getD default = x at *
     have hstep := joinAll_take hx
     have hxle := joinAll_le HG.out hx
     rcases List.eq_nil_or_concat (joinAll [] (G.take j)) with he | ⟨p, y, he⟩
     ·rw [he] at HO2 hstep ⊢
      have HR : Hid (joinAll [] (G.take (j + 1)) = [] ++ [x]) := hid hstep
      clear hstep hxle he
      go_upto_region 17 with fail
      (generalize hW5 : World.alloc _ _ = w5; have hB5 : Below w.heap.size w w5 := (by rw [← hW5]; exact below_auto); have hC5 : Below wr.heap.size wr w5 := (by rw [← hW5]; exact below_auto); have hS5 : wr.heap.size < w5.heap.size := (by rw [← hW5]; first | (simp [go_sem]; done) | (simp [go_sem]; omega)); have cx5_0 := congrArg (fun W => W.cell? ⟨wr.heap.size, 0, none⟩) hW5.symm; have fx5_0 := congrArg (fun W => W.frozen? ⟨wr.heap.size, 0, none⟩) hW5.symm; have cx5_1 := congrArg (fun W => W.cell? ⟨wr.heap.size, 1, none⟩) hW5.symm; have fx5_1 := congrArg (fun W => W.frozen? ⟨wr.heap.size, 1, none⟩) hW5.symm; have cx5_2 := congrArg (fun W => W.cell? ⟨wr.heap.size, 2, none⟩) hW5.symm; have fx5_2 := congrArg (fun W => W.frozen? ⟨wr.heap.size, 2, none⟩) hW5.symm; have cx5_3 := congrArg (fun W => W.cell? ⟨wr.heap.size, 3, none⟩) hW5.symm; have fx5_3 := congrArg (fun W => W.frozen? ⟨wr.heap.size, 3, none⟩) hW5.symm; clear hW5; simp [go_sem, *] at cx5_0; simp [go_sem, *] at fx5_0; simp [go_sem, *] at cx5_1; simp [go_sem, *] at fx5_1; simp [go_sem, *] at cx5_2; simp [go_sem, *] at fx5_2; simp [go_sem, *] at cx5_3; simp [go_sem, *] at fx5_3)
      have hB6 : Below w1.heap.size w1 w5 := hb2.trans (hC5.mono hz2)
      have hown := HO2.out.kept (grown_of_below hC5) (by cases (Value.slice v ([] : List RK).length cv).ownBlock <;> simp)
      obtain ⟨a', c', w', hr, ho', hb'⟩ := app1 x hB6 hown hB6.size (by simp)
      have HO' := hid ho'
      clear ho' hown hjl
      simp only [List.length_nil, Nat.zero_add] at hr
      go_wp2_with (at_builtin; refine Lib.wpList_append_run _ rfl _ _ _ _ rfl _ _ rfl rfl _ _ (hr _) ?_)
      go_roundw
      case rel => exact ⟨j + 1, a', c', by omega, by go_num, by rw [HR.out]; simp, hid (by rw [HR.out, List.length_append]; exact HO'.out), hb'⟩
      case measure => simp [intOf]; omega
     ·rw [List.concat_eq_append] at he
      rw [he, joinL_snoc] at hstep
      rw [he] at HO2 hjl ⊢
      have hyx : y.lo.v ≤ x.lo.v := hxle y (by rw [he]; simp)
      clear hxle he hx
      have hpl : (p ++ [y]).length = p.length + 1 := by simp
      rw [hpl] at HO2 hjl ⊢
      obtain ⟨q, hq⟩ : ∃ q, p.length = q := ⟨_, rfl⟩
      rw [hq] at HO2 hjl hpl ⊢
      rcases HO2.out.2 with ⟨h1, h2⟩ | ⟨g', cap, cur, h1, hbg, hbl, _⟩
      ·cases h1
      cases h1
      have hgl := (HO2.out.lt g' rfl).2
      have hyx2 : (p ++ [y])[q]? = some y := by rw [List.getElem?_append_right (by omega), ← hq]; simp
      have hcl := HO2.out.cells (g := g') rfl
      have at' : ∀ t u, t < 4 → (enc y)[t]? = some u → wr.cell? ⟨g', q * 4 + t, none⟩ = some u := fun t u ht hu => by rw [← addr0]; exact hcl _ u ((flat_get enc_len hyx2 ht).trans hu)
      have e0 : wr.cell? ⟨g', q * 4, none⟩ = some (.float .f64 y.lo.bits) := at' 0 _ (by omega) rfl
      have e1 := at' 1 _ (by omega) rfl
      have e2 := at' 2 _ (by omega) rfl
      have e3 := at' 3 _ (by omega) rfl
      have f' : ∀ o, wr.frozen? ⟨g', o, none⟩ = false := fun o => by simp [World.frozen?, hbl]
      clear at' hcl hyx2 hbl hpl
      obtain ⟨b, hbq⟩ : ∃ b, decide (y.hi.v + 1 < x.lo.v) = b := ⟨_, rfl⟩
      have HJL := fun W => join_last y x hyx b hbq W
      cases b
      ·obtain ⟨z, hz', HJ⟩ := (HJL w).2 rfl
       clear HJL hbq hyx
       rw [hz'] at hstep
       have HR := hid hstep
       clear hz' hstep
       go_upto_region 14 with fail
       (generalize hW5 : World.alloc _ _ = w5; have hB5 : Below w.heap.size w w5 := (by rw [← hW5]; exact below_auto); have hC5 : Below wr.heap.size wr w5 := (by rw [← hW5]; exact below_auto); have hS5 : wr.heap.size < w5.heap.size := (by rw [← hW5]; first | (simp [go_sem]; done) | (simp [go_sem]; omega)); have cx5_0 := congrArg (fun W => W.cell? ⟨wr.heap.size, 0, none⟩) hW5.symm; have fx5_0 := congrArg (fun W => W.frozen? ⟨wr.heap.size, 0, none⟩) hW5.symm; have cx5_1 := congrArg (fun W => W.cell? ⟨wr.heap.size, 1, none⟩) hW5.symm; have fx5_1 := congrArg (fun W => W.frozen? ⟨wr.heap.size, 1, none⟩) hW5.symm; have cx5_2 := congrArg (fun W => W.cell? ⟨wr.heap.size, 2, none⟩) hW5.symm; have fx5_2 := congrArg (fun W => W.frozen? ⟨wr.heap.size, 2, none⟩) hW5.symm; have cx5_3 := congrArg (fun W => W.cell? ⟨wr.heap.size, 3, none⟩) hW5.symm; have fx5_3 := congrArg (fun W => W.frozen? ⟨wr.heap.size, 3, none⟩) hW5.symm; clear hW5; simp [go_sem, *] at cx5_0; simp [go_sem, *] at fx5_0; simp [go_sem, *] at cx5_1; simp [go_sem, *] at fx5_1; simp [go_sem, *] at cx5_2; simp [go_sem, *] at fx5_2; simp [go_sem, *] at cx5_3; simp [go_sem, *] at fx5_3)
       have hgl5 : g' < w5.heap.size := by omega
       have x0 := (hC5.cell (p := ⟨g', _, none⟩) hgl).trans e0
       have x1 := (hC5.cell (p := ⟨g', _, none⟩) hgl).trans e1
       have x2 := (hC5.cell (p := ⟨g', _, none⟩) hgl).trans e2
       have x3 := (hC5.cell (p := ⟨g', _, none⟩) hgl).trans e3
       have hb25 := hb2.trans (hC5.mono hz2)
       have hz5 := hb25.size
       refine wp_region_notes_late [Note.val (.slice (some ⟨g', 0, none⟩) (q + 1) cv), Note.val (.slice (some ⟨g', 0, none⟩) (q + 1) cv), Note.val (.int .i64 ((q : Int) + 1)), Note.val (.int .i64 q), Note.val (.pointer (some ⟨g', q * 4, none⟩)), Note.val (.agg #[.float .f64 y.lo.bits, .float .f64 y.hi.bits, .bool false, .bool false]), Note.val (.agg #[.float .f64 x.lo.bits, .float .f64 x.hi.bits, .bool false, .bool false]), Note.val (.tuple #[.agg #[.float .f64 z.lo.bits, .float .f64 z.hi.bits, .bool false, .bool false], .bool true]), Note.val (.tuple #[.agg #[.float .f64 z.lo.bits, .float .f64 z.hi.bits, .bool false, .bool false], .bool true]), Note.val (.agg #[.float .f64 z.lo.bits, .float .f64 z.hi.bits, .bool false, .bool false]), Note.val (.bool true), Note.ptr [.float .f64 0, .float .f64 0, .bool false, .bool false]] 10 rfl (by kernel_rfl) (by kernel_rfl) ?_ ?_ ?_
       ·simp only [List.length_cons, List.length_nil, Nat.reduceAdd, List.take_succ_cons, List.take_zero, StepsN, List.nil_append, List.cons_append]
        refine ⟨?_, ?_, ?_, ?_, ?_, ?_, ?_, ?_, ?_, ?_, ?_, ?_, trivial⟩
        ·intro u w6 hb6 hd
         refine mB hb6 ?_; intro hc6 hf6 hz6; intros
         refine mH ?_; clear hd
         ((try simp only [forall_exists_index, and_imp]); intros)
         clear u
         go_wp2_with (first | (go_at_call 149; (with_reducible refine (HJ _).mono ?_); rintro e wy ⟨rfl, hby⟩))
         exact ⟨rfl, by exact below_auto, rfl⟩
        ·intro u w6 hb6 hd
         refine mB hb6 ?_; intro hc6 hf6 hz6; intros
         refine mH ?_; clear hd
         generalize u 0 = u0
         ((try simp only [forall_exists_index, and_imp]); intros)
         (try subst u0)
         clear u
         go_wp2_with (first | (go_at_call 149; (with_reducible refine (HJ _).mono ?_); rintro e wy ⟨rfl, hby⟩))
         exact ⟨rfl, by exact below_auto, rfl⟩
        ·intro u w6 hb6 hd
         refine mB hb6 ?_; intro hc6 hf6 hz6; intros
         refine mH ?_; clear hd
         generalize u 0 = u0
         generalize u 1 = u1
         ((try simp only [forall_exists_index, and_imp]); intros)
         (try subst u0)
         (try subst u1)
         clear u
         go_wp2_with (first | (go_at_call 149; (with_reducible refine (HJ _).mono ?_); rintro e wy ⟨rfl, hby⟩))
         exact ⟨rfl, by exact below_auto, rfl⟩
        ·intro u w6 hb6 hd
         refine mB hb6 ?_; intro hc6 hf6 hz6; intros
         refine mH ?_; clear hd
         generalize u 0 = u0
         generalize u 1 = u1
         generalize u 2 = u2
         ((try simp only [forall_exists_index, and_imp]); intros)
         (try subst u0)
         (try subst u1)
         (try subst u2)
         clear u
         go_wp2_with (first | (go_at_call 149; (with_reducible refine (HJ _).mono ?_); rintro e wy ⟨rfl, hby⟩))
         exact ⟨rfl, by exact below_auto, rfl⟩
        ·intro u w6 hb6 hd
         refine mB hb6 ?_; intro hc6 hf6 hz6; intros
         refine mH ?_; clear hd
         generalize u 0 = u0
         generalize u 1 = u1
         generalize u 2 = u2
         generalize u 3 = u3
         ((try simp only [forall_exists_index, and_imp]); intros)
         (try subst u0)
         (try subst u1)
         (try subst u2)
         (try subst u3)
         clear u
         go_wp2_with (first | (go_at_call 149; (with_reducible refine (HJ _).mono ?_); rintro e wy ⟨rfl, hby⟩))
         exact ⟨rfl, by exact below_auto, rfl⟩
        ·intro u w6 hb6 hd
         refine mB hb6 ?_; intro hc6 hf6 hz6; intros
         refine mH ?_; clear hd
         generalize u 0 = u0
         generalize u 1 = u1
         generalize u 2 = u2
         generalize u 3 = u3
         generalize u 4 = u4
         ((try simp only [forall_exists_index, and_imp]); intros)
         (try subst u0)
         (try subst u1)
         (try subst u2)
         (try subst u3)
         (try subst u4)
         clear u
         go_wp2_with (first | (go_at_call 149; (with_reducible refine (HJ _).mono ?_); rintro e wy ⟨rfl, hby⟩))
         exact ⟨rfl, by exact below_auto, rfl⟩
        ·intro u w6 hb6 hd
         refine mB hb6 ?_; intro hc6 hf6 hz6; intros
         refine mH ?_; clear hd
         generalize u 0 = u0
         generalize u 1 = u1
         generalize u 2 = u2
         generalize u 3 = u3
         generalize u 4 = u4
         generalize u 5 = u5
         ((try simp only [forall_exists_index, and_imp]); intros)
         (try subst u0)
         (try subst u1)
         (try subst u2)
         (try subst u3)
         (try subst u4)
         (try subst u5)
         clear u
         go_wp2_with (first | (go_at_call 149; (with_reducible refine (HJ _).mono ?_); rintro e wy ⟨rfl, hby⟩))
         exact ⟨rfl, by exact below_auto, rfl⟩
        ·intro u w6 hb6 hd
         refine mB hb6 ?_; intro hc6 hf6 hz6; intros
         refine mH ?_; clear hd
         generalize u 0 = u0
         generalize u 1 = u1
         generalize u 2 = u2
         generalize u 3 = u3
         generalize u 4 = u4
         generalize u 5 = u5
         generalize u 6 = u6
         ((try simp only [forall_exists_index, and_imp]); intros)
         (try subst u0)
         (try subst u1)
         (try subst u2)
         (try subst u3)
         (try subst u4)
         (try subst u5)
         (try subst u6)
         clear u
         go_wp2_with (first | (go_at_call 149; (with_reducible refine (HJ _).mono ?_); rintro e wy ⟨rfl, hby⟩))
         exact ⟨rfl, by exact below_auto, rfl⟩
        ·intro u w6 hb6 hd
         refine mB hb6 ?_; intro hc6 hf6 hz6; intros
         refine mH ?_; clear hd
         generalize u 0 = u0
         generalize u 1 = u1
         generalize u 2 = u2
         generalize u 3 = u3
         generalize u 4 = u4
         generalize u 5 = u5
         generalize u 6 = u6
         generalize u 7 = u7
         ((try simp only [forall_exists_index, and_imp]); intros)
         (try subst u0)
         (try subst u1)
         (try subst u2)
         (try subst u3)
         (try subst u4)
         (try subst u5)
         (try subst u6)
         (try subst u7)
         clear u
         go_wp2_with (first | (go_at_call 149; (with_reducible refine (HJ _).mono ?_); rintro e wy ⟨rfl, hby⟩))
         exact ⟨rfl, by exact below_auto, rfl⟩
        ·intro u w6 hb6 hd
         refine mB hb6 ?_; intro hc6 hf6 hz6; intros
         refine mH ?_; clear hd
         generalize u 0 = u0
         generalize u 1 = u1
         generalize u 2 = u2
         generalize u 3 = u3
         generalize u 4 = u4
         generalize u 5 = u5
         generalize u 6 = u6
         generalize u 7 = u7
         generalize u 8 = u8
         ((try simp only [forall_exists_index, and_imp]); intros)
         (try subst u0)
         (try subst u1)
         (try subst u2)
         (try subst u3)
         (try subst u4)
         (try subst u5)
         (try subst u6)
         (try subst u7)
         (try subst u8)
         clear u
         go_wp2_with (first | (go_at_call 149; (with_reducible refine (HJ _).mono ?_); rintro e wy ⟨rfl, hby⟩))
         exact ⟨rfl, by exact below_auto, rfl⟩
        ·intro u w6 hb6 hd
         refine mB hb6 ?_; intro hc6 hf6 hz6; intros
         refine mH ?_; clear hd
         generalize u 0 = u0
         generalize u 1 = u1
         generalize u 2 = u2
         generalize u 3 = u3
         generalize u 4 = u4
         generalize u 5 = u5
         generalize u 6 = u6
         generalize u 7 = u7
         generalize u 8 = u8
         generalize u 9 = u9
         ((try simp only [forall_exists_index, and_imp]); intros)
         (try subst u0)
         (try subst u1)
         (try subst u2)
         (try subst u3)
         (try subst u4)
         (try subst u5)
         (try subst u6)
         (try subst u7)
         (try subst u8)
         (try subst u9)
         clear u
         go_wp2_with (first | (go_at_call 149; (with_reducible refine (HJ _).mono ?_); rintro e wy ⟨rfl, hby⟩))
         exact ⟨rfl, by exact below_auto, rfl⟩
        ·intro u w6 hb6 hd
         refine mB hb6 ?_; intro hc6 hf6 hz6; intros
         refine mH ?_; clear hd
         generalize u 0 = u0
         generalize u 1 = u1
         generalize u 2 = u2
         generalize u 3 = u3
         generalize u 4 = u4
         generalize u 5 = u5
         generalize u 6 = u6
         generalize u 7 = u7
         generalize u 8 = u8
         generalize u 9 = u9
         generalize u 10 = u10
         ((try simp only [forall_exists_index, and_imp]); intros)
         (try subst u0)
         (try subst u1)
         (try subst u2)
         (try subst u3)
         (try subst u4)
         (try subst u5)
         (try subst u6)
         (try subst u7)
         (try subst u8)
         (try subst u9)
         (try subst u10)
         clear u
         go_wp2_with (first | (go_at_call 149; (with_reducible refine (HJ _).mono ?_); rintro e wy ⟨rfl, hby⟩))
         exact ⟨rfl, by exact below_auto, w6.heap.size, rfl, Nat.le_refl _, by simp, by simp [cellsAre, go_sem]⟩
       intro u w6 hb6 hph hap
       refine mB hb6 ?_; intro hc6 hf6 hz6; intros
       have hp0 := hph 0 (by simp)
       have hp1 := hph 1 (by simp)
       have hp2 := hph 2 (by simp)
       have hp3 := hph 3 (by simp)
       have hp4 := hph 4 (by simp)
       have hp5 := hph 5 (by simp)
       have hp6 := hph 6 (by simp)
       have hp7 := hph 7 (by simp)
       have hp8 := hph 8 (by simp)
       have hp9 := hph 9 (by simp)
       have hp10 := hph 10 (by simp)
       have hp11 := hph 11 (by simp)
       clear hph hap
       simp only [List.length_cons, List.length_nil, List.take_succ_cons, List.take_zero, List.drop_succ_cons, List.drop_zero, List.cons_append, List.nil_append, putsFrom, putsBut, Act.put, qA, qB, qC, Nat.zero_add, Nat.reduceAdd, Nat.reduceEqDiff, if_true, if_false, reduceIte, Nat.zero_ne_one, Nat.one_ne_zero]
       generalize u 0 = u0 at *
       generalize u 1 = u1 at *
       generalize u 2 = u2 at *
       generalize u 3 = u3 at *
       generalize u 4 = u4 at *
       generalize u 5 = u5 at *
       generalize u 6 = u6 at *
       generalize u 7 = u7 at *
       generalize u 8 = u8 at *
       generalize u 9 = u9 at *
       generalize u 10 = u10 at *
       generalize u 11 = u11 at *
       clear u
       cases hp0
       cases hp1
       cases hp2
       cases hp3
       cases hp4
       cases hp5
       cases hp6
       cases hp7
       cases hp8
       cases hp9
       cases hp10
       obtain ⟨B11, rfl, hl11, hg11, hs11⟩ := hp11
       (try simp only [cellsAre, and_true] at hs11)
       rotate_left
       intro u w6 hb6 hph hap
       refine mB hb6 ?_; intro hc6 hf6 hz6; intros
       have hp0 := hph 0 (by simp) (by decide)
       have hp1 := hph 1 (by simp) (by decide)
       have hp2 := hph 2 (by simp) (by decide)
       have hp3 := hph 3 (by simp) (by decide)
       have hp4 := hph 4 (by simp) (by decide)
       have hp5 := hph 5 (by simp) (by decide)
       have hp6 := hph 6 (by simp) (by decide)
       have hp7 := hph 7 (by simp) (by decide)
       have hp8 := hph 8 (by simp) (by decide)
       have hp9 := hph 9 (by simp) (by decide)
       have hp11 := hph 11 (by simp) (by decide)
       clear hph hap
       simp only [List.length_cons, List.length_nil, List.take_succ_cons, List.take_zero, List.drop_succ_cons, List.drop_zero, List.cons_append, List.nil_append, putsFrom, putsBut, Act.put, qA, qB, qC, Nat.zero_add, Nat.reduceAdd, Nat.reduceEqDiff, if_true, if_false, reduceIte, Nat.zero_ne_one, Nat.one_ne_zero]
       generalize u 0 = u0 at *
       generalize u 1 = u1 at *
       generalize u 2 = u2 at *
       generalize u 3 = u3 at *
       generalize u 4 = u4 at *
       generalize u 5 = u5 at *
       generalize u 6 = u6 at *
       generalize u 7 = u7 at *
       generalize u 8 = u8 at *
       generalize u 9 = u9 at *
       generalize u 11 = u11 at *
       clear u
       cases hp0
       cases hp1
       cases hp2
       cases hp3
       cases hp4
       cases hp5
       cases hp6
       cases hp7
       cases hp8
       cases hp9
       obtain ⟨B11, rfl, hl11, hg11, hs11⟩ := hp11
       (try simp only [cellsAre, and_true] at hs11)
       rotate_left
       all_goals
        go_upto_region 16 with fail
        have hlB : w5.heap.size ≤ B11 := by simpa using hl11
        have hC6 : Below wr.heap.size wr w6 := by (repeat (first | with_reducible exact Below.refl _ _ | ((with_reducible refine Below.alloc1 ?_ ?_ _); (· first | omega | (simp; done) | (simp; omega))) | (with_reducible refine Below.drew ?_) | (with_reducible refine below_drewN' ?_ _) | ((with_reducible refine Below.setCell1 ?_ ?_ _); (· first | omega | (simp; done) | (simp; omega))) | ((with_reducible refine Below.after (by assumption) ?_ ?_); (· first | omega | (simp; done) | (simp; omega))))); exact hC5
        generalize hW7 : World.setCell _ _ _ = w7
        have hC7 : Below wr.heap.size wr w7 := by rw [← hW7]; exact below_auto
        have hB7 : Below w1.heap.size w1 w7 := hb2.trans (hC7.mono hz2)
        have hz7 := hC7.size
        have k0 := congrArg (fun W => W.cell? ⟨B11, 0, none⟩) hW7.symm
        have k1 := congrArg (fun W => W.cell? ⟨B11, 1, none⟩) hW7.symm
        have k2 := congrArg (fun W => W.cell? ⟨B11, 2, none⟩) hW7.symm
        have k3 := congrArg (fun W => W.cell? ⟨B11, 3, none⟩) hW7.symm
        clear hW7
        simp [go_sem, *] at k0 k1 k2 k3
        have y0 := (hC7.cell (p := ⟨g', _, none⟩) hgl).trans e0
        have y1 := (hC7.cell (p := ⟨g', _, none⟩) hgl).trans e1
        have y2 := (hC7.cell (p := ⟨g', _, none⟩) hgl).trans e2
        have y3 := (hC7.cell (p := ⟨g', _, none⟩) hgl).trans e3
        have yf : ∀ o, w7.frozen? ⟨g', o, none⟩ = false := fun o => (hC7.frozen (p := ⟨g', o, none⟩) hgl).trans (f' o)
        have hown7 := HO2.out.kept (grown_of_below hC7) (by cases (Value.slice (some ⟨g', 0, none⟩) (q + 1) cv).ownBlock <;> simp)
        have hset := own_set4 z hq hown7
        have hBs := hB7.grown hset.2 hB7.size (fun k hk => by cases hk; exact hbg)
        have HSet := hid hset
        have HBs := hid hBs
        clear hset hBs hown7 hc6 hf6 hs11 f'
        go_wp2_with fail
        go_roundw
        case rel => exact ⟨j + 1, some ⟨g', 0, none⟩, cv, by omega, by go_num, by rw [HR.out]; simp [hq], hid (by rw [HR.out, List.length_append, hq]; exact HSet.out.1), HBs.out⟩
        case measure => simp [intOf]; omega
      ·obtain ⟨hz', _⟩ := (HJL w).1 rfl
       have HJ := fun W => ((HJL W).1 rfl).2
       clear HJL hbq hyx
       rw [hz'] at hstep
       have HR : Hid (joinAll [] (G.take (j + 1)) = (p ++ [y]) ++ [x]) := hid (by rw [hstep, List.append_assoc]; rfl)
       clear hz' hstep
       go_upto_region 14 with fail
       (generalize hW5 : World.alloc _ _ = w5; have hB5 : Below w.heap.size w w5 := (by rw [← hW5]; exact below_auto); have hC5 : Below wr.heap.size wr w5 := (by rw [← hW5]; exact below_auto); have hS5 : wr.heap.size < w5.heap.size := (by rw [← hW5]; first | (simp [go_sem]; done) | (simp [go_sem]; omega)); have cx5_0 := congrArg (fun W => W.cell? ⟨wr.heap.size, 0, none⟩) hW5.symm; have fx5_0 := congrArg (fun W => W.frozen? ⟨wr.heap.size, 0, none⟩) hW5.symm; have cx5_1 := congrArg (fun W => W.cell? ⟨wr.heap.size, 1, none⟩) hW5.symm; have fx5_1 := congrArg (fun W => W.frozen? ⟨wr.heap.size, 1, none⟩) hW5.symm; have cx5_2 := congrArg (fun W => W.cell? ⟨wr.heap.size, 2, none⟩) hW5.symm; have fx5_2 := congrArg (fun W => W.frozen? ⟨wr.heap.size, 2, none⟩) hW5.symm; have cx5_3 := congrArg (fun W => W.cell? ⟨wr.heap.size, 3, none⟩) hW5.symm; have fx5_3 := congrArg (fun W => W.frozen? ⟨wr.heap.size, 3, none⟩) hW5.symm; clear hW5; simp [go_sem, *] at cx5_0; simp [go_sem, *] at fx5_0; simp [go_sem, *] at cx5_1; simp [go_sem, *] at fx5_1; simp [go_sem, *] at cx5_2; simp [go_sem, *] at fx5_2; simp [go_sem, *] at cx5_3; simp [go_sem, *] at fx5_3)
       have hgl5 : g' < w5.heap.size := by omega
       have x0 := (hC5.cell (p := ⟨g', _, none⟩) hgl).trans e0
       have x1 := (hC5.cell (p := ⟨g', _, none⟩) hgl).trans e1
       have x2 := (hC5.cell (p := ⟨g', _, none⟩) hgl).trans e2
       have x3 := (hC5.cell (p := ⟨g', _, none⟩) hgl).trans e3
       have hb25 := hb2.trans (hC5.mono hz2)
       have hz5 := hb25.size
       refine wp_region_notes_late [Note.val (.slice (some ⟨g', 0, none⟩) (q + 1) cv), Note.val (.slice (some ⟨g', 0, none⟩) (q + 1) cv), Note.val (.int .i64 ((q : Int) + 1)), Note.val (.int .i64 q), Note.val (.pointer (some ⟨g', q * 4, none⟩)), Note.val (.agg #[.float .f64 y.lo.bits, .float .f64 y.hi.bits, .bool false, .bool false]), Note.val (.agg #[.float .f64 x.lo.bits, .float .f64 x.hi.bits, .bool false, .bool false]), Note.val (.tuple #[.agg #[.float .f64 0, .float .f64 0, .bool true, .bool true], .bool false]), Note.val (.tuple #[.agg #[.float .f64 0, .float .f64 0, .bool true, .bool true], .bool false]), Note.val (.agg #[.float .f64 0, .float .f64 0, .bool true, .bool true]), Note.val (.bool false), Note.ptr [.float .f64 0, .float .f64 0, .bool false, .bool false]] 10 rfl (by kernel_rfl) (by kernel_rfl) ?_ ?_ ?_
       ·simp only [List.length_cons, List.length_nil, Nat.reduceAdd, List.take_succ_cons, List.take_zero, StepsN, List.nil_append, List.cons_append]
        refine ⟨?_, ?_, ?_, ?_, ?_, ?_, ?_, ?_, ?_, ?_, ?_, ?_, trivial⟩
        ·intro u w6 hb6 hd
         refine mB hb6 ?_; intro hc6 hf6 hz6; intros
         refine mH ?_; clear hd
         ((try simp only [forall_exists_index, and_imp]); intros)
         clear u
         go_wp2_with (first | (go_at_call 149; (with_reducible refine (HJ _).mono ?_); rintro e wy ⟨rfl, hby⟩))
         exact ⟨rfl, by exact below_auto, rfl⟩
        ·intro u w6 hb6 hd
         refine mB hb6 ?_; intro hc6 hf6 hz6; intros
         refine mH ?_; clear hd
         generalize u 0 = u0
         ((try simp only [forall_exists_index, and_imp]); intros)
         (try subst u0)
         clear u
         go_wp2_with (first | (go_at_call 149; (with_reducible refine (HJ _).mono ?_); rintro e wy ⟨rfl, hby⟩))
         exact ⟨rfl, by exact below_auto, rfl⟩
        ·intro u w6 hb6 hd
         refine mB hb6 ?_; intro hc6 hf6 hz6; intros
         refine mH ?_; clear hd
         generalize u 0 = u0
         generalize u 1 = u1
         ((try simp only [forall_exists_index, and_imp]); intros)
         (try subst u0)
         (try subst u1)
         clear u
         go_wp2_with (first | (go_at_call 149; (with_reducible refine (HJ _).mono ?_); rintro e wy ⟨rfl, hby⟩))
         exact ⟨rfl, by exact below_auto, rfl⟩
        ·intro u w6 hb6 hd
         refine mB hb6 ?_; intro hc6 hf6 hz6; intros
         refine mH ?_; clear hd
         generalize u 0 = u0
         generalize u 1 = u1
         generalize u 2 = u2
         ((try simp only [forall_exists_index, and_imp]); intros)
         (try subst u0)
         (try subst u1)
         (try subst u2)
         clear u
         go_wp2_with (first | (go_at_call 149; (with_reducible refine (HJ _).mono ?_); rintro e wy ⟨rfl, hby⟩))
         exact ⟨rfl, by exact below_auto, rfl⟩
        ·intro u w6 hb6 hd
         refine mB hb6 ?_; intro hc6 hf6 hz6; intros
         refine mH ?_; clear hd
         generalize u 0 = u0
         generalize u 1 = u1
         generalize u 2 = u2
         generalize u 3 = u3
         ((try simp only [forall_exists_index, and_imp]); intros)
         (try subst u0)
         (try subst u1)
         (try subst u2)
         (try subst u3)
         clear u
         go_wp2_with (first | (go_at_call 149; (with_reducible refine (HJ _).mono ?_); rintro e wy ⟨rfl, hby⟩))
         exact ⟨rfl, by exact below_auto, rfl⟩
        ·intro u w6 hb6 hd
         refine mB hb6 ?_; intro hc6 hf6 hz6; intros
         refine mH ?_; clear hd
         generalize u 0 = u0
         generalize u 1 = u1
         generalize u 2 = u2
         generalize u 3 = u3
         generalize u 4 = u4
         ((try simp only [forall_exists_index, and_imp]); intros)
         (try subst u0)
         (try subst u1)
         (try subst u2)
         (try subst u3)
         (try subst u4)
         clear u
         go_wp2_with (first | (go_at_call 149; (with_reducible refine (HJ _).mono ?_); rintro e wy ⟨rfl, hby⟩))
         exact ⟨rfl, by exact below_auto, rfl⟩
        ·intro u w6 hb6 hd
         refine mB hb6 ?_; intro hc6 hf6 hz6; intros
         refine mH ?_; clear hd
         generalize u 0 = u0
         generalize u 1 = u1
         generalize u 2 = u2
         generalize u 3 = u3
         generalize u 4 = u4
         generalize u 5 = u5
         ((try simp only [forall_exists_index, and_imp]); intros)
         (try subst u0)
         (try subst u1)
         (try subst u2)
         (try subst u3)
         (try subst u4)
         (try subst u5)
         clear u
         go_wp2_with (first | (go_at_call 149; (with_reducible refine (HJ _).mono ?_); rintro e wy ⟨rfl, hby⟩))
         exact ⟨rfl, by exact below_auto, rfl⟩
        ·intro u w6 hb6 hd
         refine mB hb6 ?_; intro hc6 hf6 hz6; intros
         refine mH ?_; clear hd
         generalize u 0 = u0
         generalize u 1 = u1
         generalize u 2 = u2
         generalize u 3 = u3
         generalize u 4 = u4
         generalize u 5 = u5
         generalize u 6 = u6
         ((try simp only [forall_exists_index, and_imp]); intros)
         (try subst u0)
         (try subst u1)
         (try subst u2)
         (try subst u3)
         (try subst u4)
         (try subst u5)
         (try subst u6)
         clear u
         go_wp2_with (first | (go_at_call 149; (with_reducible refine (HJ _).mono ?_); rintro e wy ⟨rfl, hby⟩))
         exact ⟨rfl, by exact below_auto, rfl⟩
        ·intro u w6 hb6 hd
         refine mB hb6 ?_; intro hc6 hf6 hz6; intros
         refine mH ?_; clear hd
         generalize u 0 = u0
         generalize u 1 = u1
         generalize u 2 = u2
         generalize u 3 = u3
         generalize u 4 = u4
         generalize u 5 = u5
         generalize u 6 = u6
         generalize u 7 = u7
         ((try simp only [forall_exists_index, and_imp]); intros)
         (try subst u0)
         (try subst u1)
         (try subst u2)
         (try subst u3)
         (try subst u4)
         (try subst u5)
         (try subst u6)
         (try subst u7)
         clear u
         go_wp2_with (first | (go_at_call 149; (with_reducible refine (HJ _).mono ?_); rintro e wy ⟨rfl, hby⟩))
         exact ⟨rfl, by exact below_auto, rfl⟩
        ·intro u w6 hb6 hd
         refine mB hb6 ?_; intro hc6 hf6 hz6; intros
         refine mH ?_; clear hd
         generalize u 0 = u0
         generalize u 1 = u1
         generalize u 2 = u2
         generalize u 3 = u3
         generalize u 4 = u4
         generalize u 5 = u5
         generalize u 6 = u6
         generalize u 7 = u7
         generalize u 8 = u8
         ((try simp only [forall_exists_index, and_imp]); intros)
         (try subst u0)
         (try subst u1)
         (try subst u2)
         (try subst u3)
         (try subst u4)
         (try subst u5)
         (try subst u6)
         (try subst u7)
         (try subst u8)
         clear u
         go_wp2_with (first | (go_at_call 149; (with_reducible refine (HJ _).mono ?_); rintro e wy ⟨rfl, hby⟩))
         exact ⟨rfl, by exact below_auto, rfl⟩
        ·intro u w6 hb6 hd
         refine mB hb6 ?_; intro hc6 hf6 hz6; intros
         refine mH ?_; clear hd
         generalize u 0 = u0
         generalize u 1 = u1
         generalize u 2 = u2
         generalize u 3 = u3
         generalize u 4 = u4
         generalize u 5 = u5
         generalize u 6 = u6
         generalize u 7 = u7
         generalize u 8 = u8
         generalize u 9 = u9
         ((try simp only [forall_exists_index, and_imp]); intros)
         (try subst u0)
         (try subst u1)
         (try subst u2)
         (try subst u3)
         (try subst u4)
         (try subst u5)
         (try subst u6)
         (try subst u7)
         (try subst u8)
         (try subst u9)
         clear u
         go_wp2_with (first | (go_at_call 149; (with_reducible refine (HJ _).mono ?_); rintro e wy ⟨rfl, hby⟩))
         exact ⟨rfl, by exact below_auto, rfl⟩
        ·intro u w6 hb6 hd
         refine mB hb6 ?_; intro hc6 hf6 hz6; intros
         refine mH ?_; clear hd
         generalize u 0 = u0
         generalize u 1 = u1
         generalize u 2 = u2
         generalize u 3 = u3
         generalize u 4 = u4
         generalize u 5 = u5
         generalize u 6 = u6
         generalize u 7 = u7
         generalize u 8 = u8
         generalize u 9 = u9
         generalize u 10 = u10
         ((try simp only [forall_exists_index, and_imp]); intros)
         (try subst u0)
         (try subst u1)
         (try subst u2)
         (try subst u3)
         (try subst u4)
         (try subst u5)
         (try subst u6)
         (try subst u7)
         (try subst u8)
         (try subst u9)
         (try subst u10)
         clear u
         go_wp2_with (first | (go_at_call 149; (with_reducible refine (HJ _).mono ?_); rintro e wy ⟨rfl, hby⟩))
         exact ⟨rfl, by exact below_auto, w6.heap.size, rfl, Nat.le_refl _, by simp, by simp [cellsAre, go_sem]⟩
       intro u w6 hb6 hph hap
       refine mB hb6 ?_; intro hc6 hf6 hz6; intros
       have hp0 := hph 0 (by simp)
       have hp1 := hph 1 (by simp)
       have hp2 := hph 2 (by simp)
       have hp3 := hph 3 (by simp)
       have hp4 := hph 4 (by simp)
       have hp5 := hph 5 (by simp)
       have hp6 := hph 6 (by simp)
       have hp7 := hph 7 (by simp)
       have hp8 := hph 8 (by simp)
       have hp9 := hph 9 (by simp)
       have hp10 := hph 10 (by simp)
       have hp11 := hph 11 (by simp)
       clear hph hap
       simp only [List.length_cons, List.length_nil, List.take_succ_cons, List.take_zero, List.drop_succ_cons, List.drop_zero, List.cons_append, List.nil_append, putsFrom, putsBut, Act.put, qA, qB, qC, Nat.zero_add, Nat.reduceAdd, Nat.reduceEqDiff, if_true, if_false, reduceIte, Nat.zero_ne_one, Nat.one_ne_zero]
       generalize u 0 = u0 at *
       generalize u 1 = u1 at *
       generalize u 2 = u2 at *
       generalize u 3 = u3 at *
       generalize u 4 = u4 at *
       generalize u 5 = u5 at *
       generalize u 6 = u6 at *
       generalize u 7 = u7 at *
       generalize u 8 = u8 at *
       generalize u 9 = u9 at *
       generalize u 10 = u10 at *
       generalize u 11 = u11 at *
       clear u
       cases hp0
       cases hp1
       cases hp2
       cases hp3
       cases hp4
       cases hp5
       cases hp6
       cases hp7
       cases hp8
       cases hp9
       cases hp10
       obtain ⟨B11, rfl, hl11, hg11, hs11⟩ := hp11
       (try simp only [cellsAre, and_true] at hs11)
       rotate_left
       intro u w6 hb6 hph hap
       refine mB hb6 ?_; intro hc6 hf6 hz6; intros
       have hp0 := hph 0 (by simp) (by decide)
       have hp1 := hph 1 (by simp) (by decide)
       have hp2 := hph 2 (by simp) (by decide)
       have hp3 := hph 3 (by simp) (by decide)
       have hp4 := hph 4 (by simp) (by decide)
       have hp5 := hph 5 (by simp) (by decide)
       have hp6 := hph 6 (by simp) (by decide)
       have hp7 := hph 7 (by simp) (by decide)
       have hp8 := hph 8 (by simp) (by decide)
       have hp9 := hph 9 (by simp) (by decide)
       have hp11 := hph 11 (by simp) (by decide)
       clear hph hap
       simp only [List.length_cons, List.length_nil, List.take_succ_cons, List.take_zero, List.drop_succ_cons, List.drop_zero, List.cons_append, List.nil_append, putsFrom, putsBut, Act.put, qA, qB, qC, Nat.zero_add, Nat.reduceAdd, Nat.reduceEqDiff, if_true, if_false, reduceIte, Nat.zero_ne_one, Nat.one_ne_zero]
       generalize u 0 = u0 at *
       generalize u 1 = u1 at *
       generalize u 2 = u2 at *
       generalize u 3 = u3 at *
       generalize u 4 = u4 at *
       generalize u 5 = u5 at *
       generalize u 6 = u6 at *
       generalize u 7 = u7 at *
       generalize u 8 = u8 at *
       generalize u 9 = u9 at *
       generalize u 11 = u11 at *
       clear u
       cases hp0
       cases hp1
       cases hp2
       cases hp3
       cases hp4
       cases hp5
       cases hp6
       cases hp7
       cases hp8
       cases hp9
       obtain ⟨B11, rfl, hl11, hg11, hs11⟩ := hp11
       (try simp only [cellsAre, and_true] at hs11)
       rotate_left
       all_goals
        go_upto_region 17 with fail
        have hlB : w5.heap.size ≤ B11 := by simpa using hl11
        have hC6 : Below wr.heap.size wr w6 := by (repeat (first | with_reducible exact Below.refl _ _ | ((with_reducible refine Below.alloc1 ?_ ?_ _); (· first | omega | (simp; done) | (simp; omega))) | (with_reducible refine Below.drew ?_) | (with_reducible refine below_drewN' ?_ _) | ((with_reducible refine Below.setCell1 ?_ ?_ _); (· first | omega | (simp; done) | (simp; omega))) | ((with_reducible refine Below.after (by assumption) ?_ ?_); (· first | omega | (simp; done) | (simp; omega))))); exact hC5
        generalize hW7 : World.setCell _ _ _ = w7
        have hC7 : Below wr.heap.size wr w7 := by rw [← hW7]; exact below_auto
        have hB7 : Below w1.heap.size w1 w7 := hb2.trans (hC7.mono hz2)
        have hz7 := hC7.size
        have hS7 : wr.heap.size < w7.heap.size := by rw [← hW7]; simp [go_sem]; omega
        have k0 := congrArg (fun W => W.cell? ⟨wr.heap.size, 0, none⟩) hW7.symm
        have k1 := congrArg (fun W => W.cell? ⟨wr.heap.size, 1, none⟩) hW7.symm
        have k2 := congrArg (fun W => W.cell? ⟨wr.heap.size, 2, none⟩) hW7.symm
        have k3 := congrArg (fun W => W.cell? ⟨wr.heap.size, 3, none⟩) hW7.symm
        clear hW7
        simp [go_sem, *] at k0 k1 k2 k3
        have hown7 := HO2.out.kept (grown_of_below hC7) (by cases (Value.slice (some ⟨g', 0, none⟩) (q + 1) cv).ownBlock <;> simp)
        obtain ⟨a', c', w', hr, ho', hb'⟩ := app1 (l := p ++ [y]) (c := cv) (a := some ⟨g', 0, none⟩) x hB7 (by rw [List.length_append, hq]; exact hown7) hB7.size (by rw [List.length_append, hq]; simp; omega)
        have HO' := hid ho'
        have hpl : (p ++ [y]).length = q + 1 := by rw [List.length_append, hq]; rfl
        rw [hpl] at hr
        clear ho' hown7 hc6 hf6 hs11 f' hjl hpl
        go_wp2_with (at_builtin; refine Lib.wpList_append_run _ rfl _ _ _ _ rfl _ _ rfl rfl _ _ (hr _) ?_)
        go_roundw
        case rel => exact ⟨j + 1, a', c', by omega, by go_num, by rw [HR.out]; simp [hq], hid (by rw [HR.out, List.length_append]; exact HO'.out), hb'⟩
        case measure => simp [intOf]; omega
    ·obtain rfl : j = m := by omega
     have htk : G.take j = G := by rw [← HL.out, List.take_length]
     rw [htk] at HO2 ⊢
     have hfin : ∀ W, Below wr.heap.size wr W → NormRet w (joinAll [] G) (.returned (.slice v (joinAll [] G).length cv)) W := fun W h1 =>
      ⟨v, cv, rfl, own_le (HO2.out.kept (grown_of_below h1) (by cases (Value.slice v (joinAll [] G).length cv).ownBlock <;> simp)) hz1, hb1.trans ((hb2.trans (h1.mono hz2)).mono hz1)⟩
     have HFn := hid hfin
     clear hfin
     go_wp2
     go_ret
     exact HFn.out _ (by exact below_auto)
end Go.Proofs.YtfbachckdadhoaaGreat.N
namespace Go.Proofs.YtfbachckdadhoaaGreat.N
set_option linter.unusedVariables false
open Go.RowKit Fl

def encR (k : RK) : List Value := [.int .u64 (kcode k.lo), .int .u64 (kcode k.hi)]
theorem encR_len (k : RK) : (encR k).length = 2 := rfl
theorem encR_one (k : RK) : ∀ u ∈ encR k, u.oneCell' = true := by intro u hu; simp [encR] at hu; rcases hu with rfl | rfl <;> rfl
def rCells (l : List RK) : List Value := l.flatMap encR
theorem rCells_len (l : List RK) : (rCells l).length = l.length * 2 := flat_len encR_len l
theorem rangeInfo : (Tryz.prog.info? 84).map (fun i => (i.zero, i.size, i.bytes)) = some (some (.agg #[.int .u64 0, .int .u64 0]), 2, 16) := by kernel_rfl
theorem own_sliceR {w : World} {B : Nat} {v : Value} {l : List RK} (h : w.ownsRow B 84 2 v l.length (rCells l)) : ∃ va vc, v = .slice va l.length vc := by
 rcases h.2 with ⟨rfl, h0⟩ | ⟨g, cap, cur, rfl, _⟩
 ·have := rCells_len l
  rw [h0] at this; simp at this
  exact ⟨none, 0, by rw [show l.length = 0 by omega]⟩
 ·exact ⟨_, _, rfl⟩
theorem appR {w : World} {base : Nat} {a : Option Addr} {c : Nat} {l : List RK} (x : RK) (hown : w.ownsRow base 84 2 (.slice a l.length c) l.length (rCells l)) (hbase : base ≤ w.heap.size) (hl : l.length ≤ 8796093022206) :
  ∃ a' c' w', (∀ ty, (Builtin.append_ #[92, 92] ty #[.slice a l.length c, .slice (some ⟨w.heap.size, 0, none⟩) 1 1]).run Tryz.prog (w.alloc (.cells #[.int .u64 (kcode x.lo), .int .u64 (kcode x.hi)] 84)) = .ok (.slice a' (l.length + 1) c') w') ∧
   w'.ownsRow base 84 2 (.slice a' (l.length + 1) c') (l.length + 1) (rCells (l ++ [x])) ∧ Below base w w' := by
 obtain ⟨i0, hi0, hz0, hzs, hzb⟩ := info_parts rangeInfo
 have hb1 : Below w.heap.size w (w.alloc (.cells #[.int .u64 (kcode x.lo), .int .u64 (kcode x.hi)] 84)) := by exact below_auto
 have hown1 := hown.kept (grown_of_below hb1) (by cases (Value.slice a l.length c).ownBlock <;> simp)
 obtain ⟨v', w', hr, h2, h3⟩ := run_append_own2 (P := Tryz.prog) (w.alloc (.cells #[.int .u64 (kcode x.lo), .int .u64 (kcode x.hi)] 84)) base 92 84 i0 _ 2 16 Tryz.underlying92 hi0 hz0 hzs hzb rfl (by omega) _ _ _ hown1 ⟨w.heap.size, 0, none⟩ 1 1 (encR x) rfl
  (fun j u hj => by
   have hrow : (w.alloc (.cells #[.int .u64 (kcode x.lo), .int .u64 (kcode x.hi)] 84)).heap[w.heap.size]? = some (.cells #[.int .u64 (kcode x.lo), .int .u64 (kcode x.hi)] 84 (0, 0)) := heap_alloc_new w _
   rw [addr0, cell_row hrow]
   rw [← hj]; simp [encR]) (encR_one x) (by omega) (by unfold maxLen; omega) (by omega) (by simp; omega)
 have hc : rCells l ++ encR x = rCells (l ++ [x]) := by simp [rCells]
 rw [hc] at h2
 have hlen : (l ++ [x]).length = l.length + 1 := by simp
 rw [← hlen] at h2
 obtain ⟨a', c', rfl⟩ := own_sliceR h2
 rw [hlen] at h2 hr
 exact ⟨a', c', w', hr, h2, (hb1.mono hbase).grown h3.1 (by simp; omega) (fun k hk => (hown.lt k hk).1)⟩

theorem refJoin_touch (x y : RK) (h : decide (touch x y) = true) (w : World) :
  Calls Tryz.prog 92 #[.agg #[.int .u64 (kcode x.lo), .int .u64 (kcode x.hi)], .agg #[.int .u64 (kcode y.lo), .int .u64 (kcode y.hi)]] w (Ret (.tuple #[.agg #[.int .u64 (kcode (join2 x y).lo), .int .u64 (kcode (join2 x y).hi)], .bool true]) w) := by
 have ht : touch x y := by simpa using h
 unfold touch at ht
 refine refJoinG x.rg y.rg (some ((join2 x y).lo, (join2 x y).hi)) true w (hid x.ok) (hid y.ok) (hid ?_)
 show joinR (some (x.lo, x.hi)) (some (y.lo, y.hi)) = _
 simp only [joinR, next_lt]
 rw [if_neg (by simp; omega), if_neg (by simp; omega)]
 congr 2
theorem refJoin_far (x y : RK) (h : decide (touch x y) = false) (w : World) :
  Calls Tryz.prog 92 #[.agg #[.int .u64 (kcode x.lo), .int .u64 (kcode x.hi)], .agg #[.int .u64 (kcode y.lo), .int .u64 (kcode y.hi)]] w (Ret (.tuple #[.agg #[.int .u64 1, .int .u64 0], .bool false]) w) := by
 have ht : ¬ touch x y := by simpa using h
 unfold touch at ht
 refine refJoinG x.rg y.rg none false w (hid x.ok) (hid y.ok) (hid ?_)
 show joinR (some (x.lo, x.hi)) (some (y.lo, y.hi)) = _
 simp only [joinR, next_lt]
 by_cases h1 : x.hi.v + 1 < y.lo.v
 ·rw [if_pos (by simpa using h1)]
 ·rw [if_neg (by simpa using h1), if_pos (by simp; omega)]

def insStep (r : RK) (p : List RK × Bool) (x : RK) : List RK × Bool := if (!p.2 && decide (kcode r.lo < kcode x.lo)) = true then (p.1 ++ [r, x], true) else (p.1 ++ [x], p.2)
def insF (r : RK) (l : List RK) : List RK × Bool := l.foldl (insStep r) ([], false)
theorem insStep_done (r : RK) : ∀ (l acc : List RK), l.foldl (insStep r) (acc, true) = (acc ++ l, true)
 | [], acc => by simp
 | x :: l, acc => by
  show l.foldl (insStep r) (insStep r (acc, true) x) = _
  rw [show insStep r (acc, true) x = (acc ++ [x], true) from rfl, insStep_done r l]
  simp
theorem insStep_open (r : RK) : ∀ (l acc : List RK), (if (l.foldl (insStep r) (acc, false)).2 = true then (l.foldl (insStep r) (acc, false)).1 else (l.foldl (insStep r) (acc, false)).1 ++ [r]) = acc ++ insLo l r
 | [], acc => rfl
 | x :: l, acc => by
  show (if (l.foldl (insStep r) (insStep r (acc, false) x)).2 = true then (l.foldl (insStep r) (insStep r (acc, false) x)).1 else (l.foldl (insStep r) (insStep r (acc, false) x)).1 ++ [r]) = _
  unfold insLo
  by_cases h : r.lo.v < x.lo.v
  ·have e : insStep r (acc, false) x = (acc ++ [r, x], true) := by unfold insStep; rw [if_pos (by simpa [kcode_lt] using h)]
   rw [e, insStep_done, if_pos rfl, if_pos h]
   simp
  ·have e : insStep r (acc, false) x = (acc ++ [x], false) := by unfold insStep; rw [if_neg (by simpa [kcode_lt] using h)]
   rw [e, insStep_open r l, if_neg h]
   simp
theorem insF_fin (r : RK) (l : List RK) : (if (insF r l).2 = true then (insF r l).1 else (insF r l).1 ++ [r]) = insLo l r := insStep_open r l []
theorem insF_take {r : RK} {l : List RK} {k : Nat} {x : RK} (h : l[k]? = some x) : insF r (l.take (k + 1)) = insStep r (insF r (l.take k)) x := by
 unfold insF
 rw [List.take_add_one, h, List.foldl_append]; rfl
theorem insStep_len (r : RK) (p : List RK × Bool) (x : RK) : (insStep r p x).1.length ≤ p.1.length + (if p.2 = true then 1 else if (insStep r p x).2 = true then 2 else 1) := by
 unfold insStep
 rcases p with ⟨p, b⟩
 cases b
 ·by_cases h : decide (kcode r.lo < kcode x.lo) = true
  ·simp [h]
  ·simp [h]
 ·simp
theorem insF_len (r : RK) (l : List RK) : (insF r l).1.length = l.length + (if (insF r l).2 = true then 1 else 0) := by
 have key : ∀ (l : List RK) (acc : List RK), (l.foldl (insStep r) (acc, false)).1.length = acc.length + l.length + (if (l.foldl (insStep r) (acc, false)).2 = true then 1 else 0) := by
  intro l
  induction l with
  | nil => intro acc; simp
  | cons x l ih =>
   intro acc
   show (l.foldl (insStep r) (insStep r (acc, false) x)).1.length = acc.length + (l.length + 1) + (if (l.foldl (insStep r) (insStep r (acc, false) x)).2 = true then 1 else 0)
   by_cases h : decide (kcode r.lo < kcode x.lo) = true
   ·have e : insStep r (acc, false) x = (acc ++ [r, x], true) := by unfold insStep; rw [if_pos (by simpa using h)]
    rw [e, insStep_done]; simp; omega
   ·have e : insStep r (acc, false) x = (acc ++ [x], false) := by unfold insStep; rw [if_neg (by simpa using h)]
    rw [e, ih]; simp; omega
 have := key l []
 rw [List.length_nil, Nat.zero_add] at this
 exact this
theorem absorb_take {r : RK} {l : List RK} {k : Nat} {x : RK} (h : l[k]? = some x) : absorb (r, []) (l.take (k + 1)) = absStep (absorb (r, []) (l.take k)) x := by
 unfold absorb
 rw [List.take_add_one, h, List.foldl_append]; rfl
theorem absorb_len : ∀ (l : List RK) (p : RK × List RK), (absorb p l).2.length ≤ p.2.length + l.length
 | [], p => Nat.le_refl _
 | x :: l, p => by
  have h := absorb_len l (absStep p x)
  have h2 : (absStep p x).2.length ≤ p.2.length + 1 := by unfold absStep; split <;> simp
  show (absorb (absStep p x) l).2.length ≤ _
  simp; omega
theorem insLo_len : ∀ (l : List RK) (r : RK), (insLo l r).length = l.length + 1
 | [], _ => rfl
 | x :: t, r => by
  unfold insLo
  split
  ·simp
  ·simp [insLo_len t r]
theorem refStep_len (out : List RK) (r : RK) : (refStep out r).length ≤ out.length + 1 := by
 unfold refStep
 rw [insLo_len]
 have := absorb_len out (r, [])
 simp at this; omega
theorem refAllN_len (l : List RK) : ∀ out : List RK, (refAllN out l).length ≤ out.length + l.length := by
 induction l with
 | nil => intro out; exact Nat.le_refl _
 | cons x l ih =>
  intro out
  have h1 := ih (refStep out x)
  have h2 := refStep_len out x
  show (refAllN (refStep out x) l).length ≤ _
  simp; omega
theorem refAllN_snoc (out l : List RK) (x : RK) : refAllN out (l ++ [x]) = refStep (refAllN out l) x := by unfold refAllN; rw [List.foldl_append]; rfl
end Go.Proofs.YtfbachckdadhoaaGreat.N
namespace Go.Proofs.YtfbachckdadhoaaGreat.N
set_option linter.unusedVariables false
set_option linter.unusedSimpArgs false
open Go.RowKit Fl

structure RBox (w : World) (B : Nat) (r : RK) : Prop where
 lt : B < w.heap.size
 c0 : w.cell? ⟨B, 0, none⟩ = some (.int .u64 (kcode r.lo))
 c1 : w.cell? ⟨B, 1, none⟩ = some (.int .u64 (kcode r.hi))
 f0 : w.frozen? ⟨B, 0, none⟩ = false
 f1 : w.frozen? ⟨B, 1, none⟩ = false
theorem RBox.below {w w' : World} {B C : Nat} {r : RK} (h : RBox w B r) (hb : Below C w w') (hC : B < C) : RBox w' B r :=
 ⟨Nat.lt_of_lt_of_le h.lt hb.size, (hb.cell (p := ⟨B, 0, none⟩) hC).trans h.c0, (hb.cell (p := ⟨B, 1, none⟩) hC).trans h.c1, (hb.frozen (p := ⟨B, 0, none⟩) hC).trans h.f0, (hb.frozen (p := ⟨B, 1, none⟩) hC).trans h.f1⟩
theorem RBox.set {w : World} {B : Nat} {r : RK} (z : RK) (h : RBox w B r) :
  RBox ((w.setCell ⟨B, 0, none⟩ (.int .u64 (kcode z.lo))).setCell ⟨B, 1, none⟩ (.int .u64 (kcode z.hi))) B z ∧ w.grownBy ((w.setCell ⟨B, 0, none⟩ (.int .u64 (kcode z.lo))).setCell ⟨B, 1, none⟩ (.int .u64 (kcode z.hi))) (some B) := by
 have h0 := h.c0; have h1 := h.c1; have f0 := h.f0; have f1 := h.f1; have hl := h.lt
 refine ⟨⟨by simp; omega, ?_, ?_, ?_, ?_⟩, ⟨rfl, rfl, rfl, by simp, fun k hk hne => ?_⟩⟩
 ·simp [go_sem, *]
 ·simp [go_sem, *]
 ·simp [go_sem, *]
 ·simp [go_sem, *]
 ·have hne' : B ≠ k := fun e => hne (by rw [e])
  rw [Below.heap_setCell _ _ _ _ (fun e => hne' e.symm), Below.heap_setCell _ _ _ _ (fun e => hne' e.symm)]
theorem row_cells {W : World} {base m : Nat} {u : Option Addr} {cu : Nat} {L : List RK} (h : W.ownsRow base 84 2 (.slice u m cu) m (rCells L)) (hm : L.length = m) (C : Nat) (hC : W.heap.size ≤ C) (w : World) (hb : ∀ k, k < C → w.heap[k]? = W.heap[k]?) (k : Nat) (hk : k < m) :
  ∃ g, u = some ⟨g, 0, none⟩ ∧ g < W.heap.size ∧ w.cell? ⟨g, k * 2, none⟩ = some (.int .u64 (kcode (L[k]?.getD default).lo)) ∧ w.cell? ⟨g, k * 2 + 1, none⟩ = some (.int .u64 (kcode (L[k]?.getD default).hi)) := by
 rcases h.2 with ⟨h1, h2⟩ | ⟨g, cap, cur, h1, _⟩
 ·omega
 ·cases h1
  have hcl := h.cells (g := g) rfl
  have hgl := (h.lt g rfl).2
  have hx : L[k]? = some (L[k]?.getD default) := by rw [List.getElem?_eq_getElem (by omega)]; rfl
  have at' : ∀ t v, t < 2 → (encR (L[k]?.getD default))[t]? = some v → w.cell? ⟨g, k * 2 + t, none⟩ = some v := fun t v ht hv => (World.cell?_of_block (w := W) (a := ⟨g, k * 2 + t, none⟩) (hb g (by omega))).trans (by rw [← addr0]; exact hcl _ v ((flat_get encR_len hx ht).trans hv))
  exact ⟨g, rfl, hgl, at' 0 _ (by omega) rfl, at' 1 _ (by omega) rfl⟩

def RNormRet (w : World) (l : List RK) (e : Ending) (w' : World) : Prop :=
 ∃ a c, e = .returned (.slice a l.length c) ∧ w'.ownsRow w.heap.size 84 2 (.slice a l.length c) l.length (rCells l) ∧ Below w.heap.size w w'

set_option maxHeartbeats 1000000 in
set_option maxRecDepth 100000 in
theorem refNorm_any (a : Option Addr) (c : Nat) (ss : List SpanV) (n : Nat) (w : World) (hn : ss.length = n) (h : SAt w a ss) (hlen : n ≤ 5864062014634) :
  Calls Tryz.prog 41 #[.slice a n c] w (RNormRet w (refAllN [] (forms ss))) := by
 have HN := hid hn; have HS := hid h
 have HF := hid fun i => forms_take_le ss i
 have HT : Hid (forms (ss.take n) = forms ss) := hid (by rw [← hn, List.take_length])
 have h00 : Below w.heap.size w (w.alloc (.cells #[] 84)) := by exact below_auto
 have hown0 : (w.alloc (.cells #[] 84)).ownsRow w.heap.size 84 2 (.slice (some ⟨w.heap.size, 0, none⟩) 0 0) 0 [] :=
  ⟨rfl, .inr ⟨w.heap.size, 0, #[], rfl, Nat.le_refl _, heap_alloc_new w _, Nat.le_refl _, by unfold maxLen; omega, rfl, rfl⟩⟩
 have H0 := hid hown0
 clear hn h hown0
 go_enter Tryz.func41, Tryz.ntmps41
 go_wp2
 go_loopw [4, 3] (fun iv uv wr => ∃ (i : Nat) (u : Option Addr) (cu : Nat), i ≤ n ∧ iv = .int .i64 i ∧ uv = .slice u (refAllN [] (forms (ss.take i))).length cu ∧ Hid (wr.ownsRow w.heap.size 84 2 (.slice u (refAllN [] (forms (ss.take i))).length cu) (refAllN [] (forms (ss.take i))).length (rCells (refAllN [] (forms (ss.take i))))) ∧ Below w.heap.size w wr) (fun iv _ _ => n - (intOf iv).toNat)
 case atStart => exact ⟨0, some ⟨w.heap.size, 0, none⟩, 0, Nat.zero_le _, rfl, rfl, H0, h00⟩
 case round =>
  obtain ⟨i, u, cu, hin, rfl, rfl, HO, hb⟩ := hrel
  obtain ⟨wo, rfl⟩ : ∃ x, x = wr := ⟨_, rfl⟩
  have hz := hb.size
  by_cases hlt : i < n
  ·have hlt' : (i : Int) < (n : Int) := by omega
   have hil : i < ss.length := by rw [HN.out]; exact hlt
   have hx := hid (sp_some hil)
   obtain ⟨l1, l2⟩ := HS.out.lt i hil
   have hrow := HS.out.row
   rcases hrow with h0 | ⟨g, o, rfl, hg, hcs⟩
   ·rw [h0] at hil; simp at hil
   obtain ⟨c0, c1, c2, c3⟩ := hcs i hil
   have kk := fun j => hb.cell (p := ⟨g, j, none⟩) hg
   have d0 := (kk _).trans c0; have d1 := (kk _).trans c1; have d2 := (kk _).trans c2; have d3 := (kk _).trans c3
   have hle := HF.out i
   have hle2 := refAllN_len (forms (ss.take i)) []
   rw [HN.out] at hle
   simp only [List.length_nil, Nat.zero_add] at hle2
   clear c0 c1 c2 c3 kk hcs hil
   generalize ss[i]?.getD default = s at *
   have hgw : g < wo.heap.size := by omega
   rcases hr : canonS s.lo s.hi s.a s.b with _ | ⟨l, h⟩
   ·have hs := forms_snoc hx.out
    rw [fO_none hr, List.append_nil] at hs
    have HR := hid hs
    have HRR := hid hr
    clear hs hr
    have HOf : ∀ W, Calls Tryz.prog 36 #[.agg #[.float .f64 s.lo, .float .f64 s.hi, .bool s.a, .bool s.b]] W (Ret (.agg #[.int .u64 1, .int .u64 0]) W) := fun W => refOf_is s.lo s.hi s.a s.b none W l1 l2 HRR
    go_wp2_with (first | (go_at_call 36; (with_reducible refine (HOf _).mono ?_); rintro e w1 ⟨rfl, hb1⟩; refine mB hb1 ?_; intro hc1 hf1 hz1; intros; (try have hu1_wo_0 : wo.heap.size < w1.heap.size := by omega); (try have hu1_wo_1 : wo.heap.size + 1 < w1.heap.size := by omega)) | (go_at_call 35; (with_reducible refine (refEmpty_none _).mono ?_); rintro e w2 ⟨rfl, hb2⟩; refine mB hb2 ?_; intro hc2 hf2 hz2; intros; (try have hu2_wo_0 : wo.heap.size < w2.heap.size := by omega); (try have hu2_wo_1 : wo.heap.size + 1 < w2.heap.size := by omega)))
    go_roundw
    case rel => exact ⟨i + 1, u, cu, by omega, by go_num, by rw [HR.out], hid (by rw [HR.out]; exact HO.out.kept (grown_of_below (w := wo) (by exact below_auto)) (by cases (Value.slice u (refAllN [] (forms (ss.take i))).length cu).ownBlock <;> simp)), by exact below_auto⟩
    case measure => simp [intOf]; omega
   ·obtain ⟨x, rfl, rfl, hfx⟩ : ∃ x : RK, x.lo = l ∧ x.hi = h ∧ fO s = [x] := ⟨⟨l, h, canonS_le hr⟩, rfl, rfl, fO_some hr⟩
    have hs := forms_snoc hx.out
    rw [hfx] at hs
    have HR : Hid (refAllN [] (forms (ss.take (i + 1))) = refStep (refAllN [] (forms (ss.take i))) x) := hid (by rw [hs, refAllN_snoc])
    have HRR := hid hr
    clear hs hr hfx
    have HOf : ∀ W, Calls Tryz.prog 36 #[.agg #[.float .f64 s.lo, .float .f64 s.hi, .bool s.a, .bool s.b]] W (Ret (.agg #[.int .u64 (kcode x.lo), .int .u64 (kcode x.hi)]) W) := fun W => refOf_is s.lo s.hi s.a s.b (some (x.lo, x.hi)) W l1 l2 HRR
    generalize hout : refAllN [] (forms (ss.take i)) = out at *
    obtain ⟨m, hm⟩ : ∃ m, out.length = m := ⟨_, rfl⟩
    have HM := hid hm
    rw [hm] at HO hle2 ⊢
    clear hout hm
    go_upto_region 6 with (go_at_call 36; (with_reducible refine (HOf _).mono ?_); rintro e w1 ⟨rfl, hb1⟩; refine mB hb1 ?_; intro hc1 hf1 hz1; intros; (try have hu1_wo_0 : wo.heap.size < w1.heap.size := by omega); (try have hu1_wo_1 : wo.heap.size + 1 < w1.heap.size := by omega))
    (generalize hW5 : World.alloc _ _ = w5; have hB5 : Below w.heap.size w w5 := (by rw [← hW5]; exact below_auto); have hC5 : Below w1.heap.size w1 w5 := (by rw [← hW5]; exact below_auto); have hS5 : w1.heap.size < w5.heap.size := (by rw [← hW5]; first | (simp [go_sem]; done) | (simp [go_sem]; omega)); have cx5_0 := congrArg (fun W => W.cell? ⟨w1.heap.size, 0, none⟩) hW5.symm; have fx5_0 := congrArg (fun W => W.frozen? ⟨w1.heap.size, 0, none⟩) hW5.symm; have cx5_1 := congrArg (fun W => W.cell? ⟨w1.heap.size, 1, none⟩) hW5.symm; have fx5_1 := congrArg (fun W => W.frozen? ⟨w1.heap.size, 1, none⟩) hW5.symm; clear hW5; simp [go_sem, *] at cx5_0; simp [go_sem, *] at fx5_0; simp [go_sem, *] at cx5_1; simp [go_sem, *] at fx5_1)
    have hC15 : Below wo.heap.size wo w1 := by exact below_auto
    have hz1 := hC15.size
    have hR5 : RBox w5 w1.heap.size x := ⟨hS5, cx5_0, cx5_1, fx5_0, fx5_1⟩
    have HCo : Hid (∀ W, Below w1.heap.size w1 W → ∀ k, k < m → ∃ g, u = some ⟨g, 0, none⟩ ∧ g < wo.heap.size ∧ W.cell? ⟨g, k * 2, none⟩ = some (.int .u64 (kcode (out[k]?.getD default).lo)) ∧ W.cell? ⟨g, k * 2 + 1, none⟩ = some (.int .u64 (kcode (out[k]?.getD default).hi))) := hid fun W hW k hk => row_cells HO.out HM.out wo.heap.size (Nat.le_refl _) W (fun j hj => (hW.block j (by omega)).trans (hC15.block j hj)) k hk
    clear hB5
    go_wp2_with (go_at_call 35; (with_reducible refine (refEmpty_some x.lo x.hi (hid x.le) _).mono ?_); rintro e w2 ⟨rfl, hb2⟩; refine mB hb2 ?_; intro hc2 hf2 hz2; intros; (try have hu2_w1_0 : w1.heap.size < w2.heap.size := by omega); (try have hu2_w1_1 : w1.heap.size + 1 < w2.heap.size := by omega))
    have hC52 : Below w5.heap.size w5 w2 := by exact below_auto
    have hz2' := hC52.size
    go_loopw [7, 6] (fun kv lv w3 => ∃ (k : Nat) (v : Option Addr) (cv : Nat), k ≤ m ∧ kv = .int .i64 k ∧ lv = .slice v (absorb (x, []) (out.take k)).2.length cv ∧ Hid (w3.ownsRow (w1.heap.size + 1) 84 2 (.slice v (absorb (x, []) (out.take k)).2.length cv) (absorb (x, []) (out.take k)).2.length (rCells (absorb (x, []) (out.take k)).2)) ∧ Below w1.heap.size w1 w3 ∧ Hid (RBox w3 w1.heap.size (absorb (x, []) (out.take k)).1)) (fun kv _ _ => m - (intOf kv).toNat)
    case atStart =>
     have hA2 : Below w2.heap.size w2 (w2.alloc (.cells #[] 84)) := by exact below_auto
     exact ⟨0, some ⟨w2.heap.size, 0, none⟩, 0, Nat.zero_le _, rfl, rfl, hid ⟨rfl, .inr ⟨w2.heap.size, 0, #[], rfl, by omega, heap_alloc_new w2 _, Nat.le_refl _, by unfold maxLen; omega, rfl, rfl⟩⟩, hC5.trans ((hC52.trans (hA2.mono hz2')).mono (by omega)), hid ((hR5.below hC52 hS5).below hA2 (by omega))⟩
    case round =>
     obtain ⟨k, v, cv, hkm, rfl, rfl, HL, hb3, HB⟩ := hrel
     have hz3 := hb3.size
     by_cases hlk : k < m
     ·have hlk' : (k : Int) < (m : Int) := by omega
      obtain ⟨g', rfl, hg', e0, e1⟩ := HCo.out wr hb3 k hlk
      have hxk : out[k]? = some (out[k]?.getD default) := by rw [List.getElem?_eq_getElem (by rw [HM.out]; omega)]; rfl
      have hst := absorb_take (r := x) hxk
      have hll := absorb_len (out.take k) (x, [])
      rw [List.length_take, HM.out] at hll
      generalize out[k]?.getD default = y at *
      obtain ⟨r, L, hp⟩ : ∃ r L, absorb (x, []) (out.take k) = (r, L) := ⟨_, _, rfl⟩
      rw [hp] at HL HB hst hll ⊢
      simp only [List.length_nil, Nat.zero_add] at HL HB hst hll ⊢
      obtain ⟨n2, hn2⟩ : ∃ n2, L.length = n2 := ⟨_, rfl⟩
      rw [hn2] at HL hll ⊢
      clear hp hxk
      have hBox := HB.out
      have b0 := hBox.c0; have b1 := hBox.c1; have b2 := hBox.f0; have b3 := hBox.f1; have b4 := hBox.lt
      have hgl : g' < wr.heap.size := by omega
      cases hq : decide (touch y r)
      ·have HS2 : Hid (absorb (x, []) (out.take (k + 1)) = (r, L ++ [y])) := hid (by rw [hst]; unfold absStep; rw [if_neg (by simpa using hq)])
       have HJ := fun W => refJoin_far y r hq W
       clear hst hq hBox
       go_upto_region 11 with fail
       refine wp_region_notes_late [Note.val (.slice (some ⟨g', 0, none⟩) m cu), Note.val (.int .i64 k), Note.val (.pointer (some ⟨g', k * 2, none⟩)), Note.val (.agg #[.int .u64 (kcode y.lo), .int .u64 (kcode y.hi)]), Note.val (.agg #[.int .u64 (kcode r.lo), .int .u64 (kcode r.hi)]), Note.val (.tuple #[.agg #[.int .u64 1, .int .u64 0], .bool false]), Note.val (.tuple #[.agg #[.int .u64 1, .int .u64 0], .bool false]), Note.val (.agg #[.int .u64 1, .int .u64 0]), Note.val (.bool false), Note.ptr [.int .u64 0, .int .u64 0]] 8 rfl (by kernel_rfl) (by kernel_rfl) ?_ ?_ ?_
       ·simp only [List.length_cons, List.length_nil, Nat.reduceAdd, List.take_succ_cons, List.take_zero, StepsN, List.nil_append, List.cons_append]
        refine ⟨?_, ?_, ?_, ?_, ?_, ?_, ?_, ?_, ?_, ?_, trivial⟩
        ·intro u w6 hb6 hd
         refine mB hb6 ?_; intro hc6 hf6 hz6; intros
         refine mH ?_; clear hd
         ((try simp only [forall_exists_index, and_imp]); intros)
         clear u
         go_wp2_with (first | (go_at_call 92; (with_reducible refine (HJ _).mono ?_); rintro e wy ⟨rfl, hby⟩))
         exact ⟨rfl, by exact below_auto, rfl⟩
        ·intro u w6 hb6 hd
         refine mB hb6 ?_; intro hc6 hf6 hz6; intros
         refine mH ?_; clear hd
         generalize u 0 = u0
         ((try simp only [forall_exists_index, and_imp]); intros)
         (try subst u0)
         clear u
         go_wp2_with (first | (go_at_call 92; (with_reducible refine (HJ _).mono ?_); rintro e wy ⟨rfl, hby⟩))
         exact ⟨rfl, by exact below_auto, rfl⟩
        ·intro u w6 hb6 hd
         refine mB hb6 ?_; intro hc6 hf6 hz6; intros
         refine mH ?_; clear hd
         generalize u 0 = u0
         generalize u 1 = u1
         ((try simp only [forall_exists_index, and_imp]); intros)
         (try subst u0)
         (try subst u1)
         clear u
         go_wp2_with (first | (go_at_call 92; (with_reducible refine (HJ _).mono ?_); rintro e wy ⟨rfl, hby⟩))
         exact ⟨rfl, by exact below_auto, rfl⟩
        ·intro u w6 hb6 hd
         refine mB hb6 ?_; intro hc6 hf6 hz6; intros
         refine mH ?_; clear hd
         generalize u 0 = u0
         generalize u 1 = u1
         generalize u 2 = u2
         ((try simp only [forall_exists_index, and_imp]); intros)
         (try subst u0)
         (try subst u1)
         (try subst u2)
         clear u
         go_wp2_with (first | (go_at_call 92; (with_reducible refine (HJ _).mono ?_); rintro e wy ⟨rfl, hby⟩))
         exact ⟨rfl, by exact below_auto, rfl⟩
        ·intro u w6 hb6 hd
         refine mB hb6 ?_; intro hc6 hf6 hz6; intros
         refine mH ?_; clear hd
         generalize u 0 = u0
         generalize u 1 = u1
         generalize u 2 = u2
         generalize u 3 = u3
         ((try simp only [forall_exists_index, and_imp]); intros)
         (try subst u0)
         (try subst u1)
         (try subst u2)
         (try subst u3)
         clear u
         go_wp2_with (first | (go_at_call 92; (with_reducible refine (HJ _).mono ?_); rintro e wy ⟨rfl, hby⟩))
         exact ⟨rfl, by exact below_auto, rfl⟩
        ·intro u w6 hb6 hd
         refine mB hb6 ?_; intro hc6 hf6 hz6; intros
         refine mH ?_; clear hd
         generalize u 0 = u0
         generalize u 1 = u1
         generalize u 2 = u2
         generalize u 3 = u3
         generalize u 4 = u4
         ((try simp only [forall_exists_index, and_imp]); intros)
         (try subst u0)
         (try subst u1)
         (try subst u2)
         (try subst u3)
         (try subst u4)
         clear u
         go_wp2_with (first | (go_at_call 92; (with_reducible refine (HJ _).mono ?_); rintro e wy ⟨rfl, hby⟩))
         exact ⟨rfl, by exact below_auto, rfl⟩
        ·intro u w6 hb6 hd
         refine mB hb6 ?_; intro hc6 hf6 hz6; intros
         refine mH ?_; clear hd
         generalize u 0 = u0
         generalize u 1 = u1
         generalize u 2 = u2
         generalize u 3 = u3
         generalize u 4 = u4
         generalize u 5 = u5
         ((try simp only [forall_exists_index, and_imp]); intros)
         (try subst u0)
         (try subst u1)
         (try subst u2)
         (try subst u3)
         (try subst u4)
         (try subst u5)
         clear u
         go_wp2_with (first | (go_at_call 92; (with_reducible refine (HJ _).mono ?_); rintro e wy ⟨rfl, hby⟩))
         exact ⟨rfl, by exact below_auto, rfl⟩
        ·intro u w6 hb6 hd
         refine mB hb6 ?_; intro hc6 hf6 hz6; intros
         refine mH ?_; clear hd
         generalize u 0 = u0
         generalize u 1 = u1
         generalize u 2 = u2
         generalize u 3 = u3
         generalize u 4 = u4
         generalize u 5 = u5
         generalize u 6 = u6
         ((try simp only [forall_exists_index, and_imp]); intros)
         (try subst u0)
         (try subst u1)
         (try subst u2)
         (try subst u3)
         (try subst u4)
         (try subst u5)
         (try subst u6)
         clear u
         go_wp2_with (first | (go_at_call 92; (with_reducible refine (HJ _).mono ?_); rintro e wy ⟨rfl, hby⟩))
         exact ⟨rfl, by exact below_auto, rfl⟩
        ·intro u w6 hb6 hd
         refine mB hb6 ?_; intro hc6 hf6 hz6; intros
         refine mH ?_; clear hd
         generalize u 0 = u0
         generalize u 1 = u1
         generalize u 2 = u2
         generalize u 3 = u3
         generalize u 4 = u4
         generalize u 5 = u5
         generalize u 6 = u6
         generalize u 7 = u7
         ((try simp only [forall_exists_index, and_imp]); intros)
         (try subst u0)
         (try subst u1)
         (try subst u2)
         (try subst u3)
         (try subst u4)
         (try subst u5)
         (try subst u6)
         (try subst u7)
         clear u
         go_wp2_with (first | (go_at_call 92; (with_reducible refine (HJ _).mono ?_); rintro e wy ⟨rfl, hby⟩))
         exact ⟨rfl, by exact below_auto, rfl⟩
        ·intro u w6 hb6 hd
         refine mB hb6 ?_; intro hc6 hf6 hz6; intros
         refine mH ?_; clear hd
         generalize u 0 = u0
         generalize u 1 = u1
         generalize u 2 = u2
         generalize u 3 = u3
         generalize u 4 = u4
         generalize u 5 = u5
         generalize u 6 = u6
         generalize u 7 = u7
         generalize u 8 = u8
         ((try simp only [forall_exists_index, and_imp]); intros)
         (try subst u0)
         (try subst u1)
         (try subst u2)
         (try subst u3)
         (try subst u4)
         (try subst u5)
         (try subst u6)
         (try subst u7)
         (try subst u8)
         clear u
         go_wp2_with (first | (go_at_call 92; (with_reducible refine (HJ _).mono ?_); rintro e wy ⟨rfl, hby⟩))
         exact ⟨rfl, by exact below_auto, w6.heap.size, rfl, Nat.le_refl _, by simp, by simp [cellsAre, go_sem]⟩
       intro u w6 hb6 hph hap
       refine mB hb6 ?_; intro hc6 hf6 hz6; intros
       have hp0 := hph 0 (by simp)
       have hp1 := hph 1 (by simp)
       have hp2 := hph 2 (by simp)
       have hp3 := hph 3 (by simp)
       have hp4 := hph 4 (by simp)
       have hp5 := hph 5 (by simp)
       have hp6 := hph 6 (by simp)
       have hp7 := hph 7 (by simp)
       have hp8 := hph 8 (by simp)
       have hp9 := hph 9 (by simp)
       clear hph hap
       simp only [List.length_cons, List.length_nil, List.take_succ_cons, List.take_zero, List.drop_succ_cons, List.drop_zero, List.cons_append, List.nil_append, putsFrom, putsBut, Act.put, qA, qB, qC, Nat.zero_add, Nat.reduceAdd, Nat.reduceEqDiff, if_true, if_false, reduceIte, Nat.zero_ne_one, Nat.one_ne_zero]
       generalize u 0 = u0 at *
       generalize u 1 = u1 at *
       generalize u 2 = u2 at *
       generalize u 3 = u3 at *
       generalize u 4 = u4 at *
       generalize u 5 = u5 at *
       generalize u 6 = u6 at *
       generalize u 7 = u7 at *
       generalize u 8 = u8 at *
       generalize u 9 = u9 at *
       clear u
       cases hp0
       cases hp1
       cases hp2
       cases hp3
       cases hp4
       cases hp5
       cases hp6
       cases hp7
       cases hp8
       obtain ⟨B9, rfl, hl9, hg9, hs9⟩ := hp9
       (try simp only [cellsAre, and_true] at hs9)
       rotate_left
       intro u w6 hb6 hph hap
       refine mB hb6 ?_; intro hc6 hf6 hz6; intros
       have hp0 := hph 0 (by simp) (by decide)
       have hp1 := hph 1 (by simp) (by decide)
       have hp2 := hph 2 (by simp) (by decide)
       have hp3 := hph 3 (by simp) (by decide)
       have hp4 := hph 4 (by simp) (by decide)
       have hp5 := hph 5 (by simp) (by decide)
       have hp6 := hph 6 (by simp) (by decide)
       have hp7 := hph 7 (by simp) (by decide)
       have hp9 := hph 9 (by simp) (by decide)
       clear hph hap
       simp only [List.length_cons, List.length_nil, List.take_succ_cons, List.take_zero, List.drop_succ_cons, List.drop_zero, List.cons_append, List.nil_append, putsFrom, putsBut, Act.put, qA, qB, qC, Nat.zero_add, Nat.reduceAdd, Nat.reduceEqDiff, if_true, if_false, reduceIte, Nat.zero_ne_one, Nat.one_ne_zero]
       generalize u 0 = u0 at *
       generalize u 1 = u1 at *
       generalize u 2 = u2 at *
       generalize u 3 = u3 at *
       generalize u 4 = u4 at *
       generalize u 5 = u5 at *
       generalize u 6 = u6 at *
       generalize u 7 = u7 at *
       generalize u 9 = u9 at *
       clear u
       cases hp0
       cases hp1
       cases hp2
       cases hp3
       cases hp4
       cases hp5
       cases hp6
       cases hp7
       obtain ⟨B9, rfl, hl9, hg9, hs9⟩ := hp9
       (try simp only [cellsAre, and_true] at hs9)
       rotate_left
       all_goals
        go_upto_region 14 with fail
        have hlB : wr.heap.size ≤ B9 := by simpa using hl9
        have hC6 : Below wr.heap.size wr w6 := by exact below_auto
        generalize hW7 : World.setCell _ _ _ = w7
        have hC7 : Below wr.heap.size wr w7 := by rw [← hW7]; exact below_auto
        clear hW7
        have hz7 := hC7.size
        have x0 := (hC7.cell (p := ⟨g', _, none⟩) hgl).trans e0
        have x1 := (hC7.cell (p := ⟨g', _, none⟩) hgl).trans e1
        have hown7 := HL.out.kept (grown_of_below hC7) (by cases (Value.slice v n2 cv).ownBlock <;> simp)
        obtain ⟨a', c', w', hr, ho', hb'⟩ := appR (l := L) (c := cv) (a := v) y (by rw [hn2]; exact hown7) (by omega) (by rw [hn2]; omega)
        have HO' := hid ho'
        have HB' := hid ((HB.out.below hC7 b4).below hb' (by omega))
        have hb7 : Below w1.heap.size w1 w' := hb3.trans ((hC7.mono hz3).trans (hb'.mono (by omega)))
        rw [hn2] at hr
        clear ho' hown7 hc6 hf6 hs9
        go_wp2_with (at_builtin; refine Lib.wpList_append_run _ rfl _ _ _ _ rfl _ _ rfl rfl _ _ (hr _) ?_)
        go_roundw
        case rel => exact ⟨k + 1, a', c', by omega, by go_num, by rw [HS2.out]; simp [hn2], hid (by rw [HS2.out]; simp only [List.length_append, List.length_cons, List.length_nil]; exact HO'.out), hb7, hid (by rw [HS2.out]; exact HB'.out)⟩
        case measure => simp [intOf]; omega
      ·have hst2 : absorb (x, []) (out.take (k + 1)) = (join2 y r, L) := by rw [hst]; unfold absStep; rw [if_pos (by simpa using hq)]
       have HJ := fun W => refJoin_touch y r hq W
       generalize join2 y r = z at *
       have HS2 := hid hst2
       clear hst hst2 hq hBox
       go_upto_region 11 with fail
       refine wp_region_notes_late [Note.val (.slice (some ⟨g', 0, none⟩) m cu), Note.val (.int .i64 k), Note.val (.pointer (some ⟨g', k * 2, none⟩)), Note.val (.agg #[.int .u64 (kcode y.lo), .int .u64 (kcode y.hi)]), Note.val (.agg #[.int .u64 (kcode r.lo), .int .u64 (kcode r.hi)]), Note.val (.tuple #[.agg #[.int .u64 (kcode z.lo), .int .u64 (kcode z.hi)], .bool true]), Note.val (.tuple #[.agg #[.int .u64 (kcode z.lo), .int .u64 (kcode z.hi)], .bool true]), Note.val (.agg #[.int .u64 (kcode z.lo), .int .u64 (kcode z.hi)]), Note.val (.bool true), Note.ptr [.int .u64 0, .int .u64 0]] 8 rfl (by kernel_rfl) (by kernel_rfl) ?_ ?_ ?_
       ·simp only [List.length_cons, List.length_nil, Nat.reduceAdd, List.take_succ_cons, List.take_zero, StepsN, List.nil_append, List.cons_append]
        refine ⟨?_, ?_, ?_, ?_, ?_, ?_, ?_, ?_, ?_, ?_, trivial⟩
        ·intro u w6 hb6 hd
         refine mB hb6 ?_; intro hc6 hf6 hz6; intros
         refine mH ?_; clear hd
         ((try simp only [forall_exists_index, and_imp]); intros)
         clear u
         go_wp2_with (first | (go_at_call 92; (with_reducible refine (HJ _).mono ?_); rintro e wy ⟨rfl, hby⟩))
         exact ⟨rfl, by exact below_auto, rfl⟩
        ·intro u w6 hb6 hd
         refine mB hb6 ?_; intro hc6 hf6 hz6; intros
         refine mH ?_; clear hd
         generalize u 0 = u0
         ((try simp only [forall_exists_index, and_imp]); intros)
         (try subst u0)
         clear u
         go_wp2_with (first | (go_at_call 92; (with_reducible refine (HJ _).mono ?_); rintro e wy ⟨rfl, hby⟩))
         exact ⟨rfl, by exact below_auto, rfl⟩
        ·intro u w6 hb6 hd
         refine mB hb6 ?_; intro hc6 hf6 hz6; intros
         refine mH ?_; clear hd
         generalize u 0 = u0
         generalize u 1 = u1
         ((try simp only [forall_exists_index, and_imp]); intros)
         (try subst u0)
         (try subst u1)
         clear u
         go_wp2_with (first | (go_at_call 92; (with_reducible refine (HJ _).mono ?_); rintro e wy ⟨rfl, hby⟩))
         exact ⟨rfl, by exact below_auto, rfl⟩
        ·intro u w6 hb6 hd
         refine mB hb6 ?_; intro hc6 hf6 hz6; intros
         refine mH ?_; clear hd
         generalize u 0 = u0
         generalize u 1 = u1
         generalize u 2 = u2
         ((try simp only [forall_exists_index, and_imp]); intros)
         (try subst u0)
         (try subst u1)
         (try subst u2)
         clear u
         go_wp2_with (first | (go_at_call 92; (with_reducible refine (HJ _).mono ?_); rintro e wy ⟨rfl, hby⟩))
         exact ⟨rfl, by exact below_auto, rfl⟩
        ·intro u w6 hb6 hd
         refine mB hb6 ?_; intro hc6 hf6 hz6; intros
         refine mH ?_; clear hd
         generalize u 0 = u0
         generalize u 1 = u1
         generalize u 2 = u2
         generalize u 3 = u3
         ((try simp only [forall_exists_index, and_imp]); intros)
         (try subst u0)
         (try subst u1)
         (try subst u2)
         (try subst u3)
         clear u
         go_wp2_with (first | (go_at_call 92; (with_reducible refine (HJ _).mono ?_); rintro e wy ⟨rfl, hby⟩))
         exact ⟨rfl, by exact below_auto, rfl⟩
        ·intro u w6 hb6 hd
         refine mB hb6 ?_; intro hc6 hf6 hz6; intros
         refine mH ?_; clear hd
         generalize u 0 = u0
         generalize u 1 = u1
         generalize u 2 = u2
         generalize u 3 = u3
         generalize u 4 = u4
         ((try simp only [forall_exists_index, and_imp]); intros)
         (try subst u0)
         (try subst u1)
         (try subst u2)
         (try subst u3)
         (try subst u4)
         clear u
         go_wp2_with (first | (go_at_call 92; (with_reducible refine (HJ _).mono ?_); rintro e wy ⟨rfl, hby⟩))
         exact ⟨rfl, by exact below_auto, rfl⟩
        ·intro u w6 hb6 hd
         refine mB hb6 ?_; intro hc6 hf6 hz6; intros
         refine mH ?_; clear hd
         generalize u 0 = u0
         generalize u 1 = u1
         generalize u 2 = u2
         generalize u 3 = u3
         generalize u 4 = u4
         generalize u 5 = u5
         ((try simp only [forall_exists_index, and_imp]); intros)
         (try subst u0)
         (try subst u1)
         (try subst u2)
         (try subst u3)
         (try subst u4)
         (try subst u5)
         clear u
         go_wp2_with (first | (go_at_call 92; (with_reducible refine (HJ _).mono ?_); rintro e wy ⟨rfl, hby⟩))
         exact ⟨rfl, by exact below_auto, rfl⟩
        ·intro u w6 hb6 hd
         refine mB hb6 ?_; intro hc6 hf6 hz6; intros
         refine mH ?_; clear hd
         generalize u 0 = u0
         generalize u 1 = u1
         generalize u 2 = u2
         generalize u 3 = u3
         generalize u 4 = u4
         generalize u 5 = u5
         generalize u 6 = u6
         ((try simp only [forall_exists_index, and_imp]); intros)
         (try subst u0)
         (try subst u1)
         (try subst u2)
         (try subst u3)
         (try subst u4)
         (try subst u5)
         (try subst u6)
         clear u
         go_wp2_with (first | (go_at_call 92; (with_reducible refine (HJ _).mono ?_); rintro e wy ⟨rfl, hby⟩))
         exact ⟨rfl, by exact below_auto, rfl⟩
        ·intro u w6 hb6 hd
         refine mB hb6 ?_; intro hc6 hf6 hz6; intros
         refine mH ?_; clear hd
         generalize u 0 = u0
         generalize u 1 = u1
         generalize u 2 = u2
         generalize u 3 = u3
         generalize u 4 = u4
         generalize u 5 = u5
         generalize u 6 = u6
         generalize u 7 = u7
         ((try simp only [forall_exists_index, and_imp]); intros)
         (try subst u0)
         (try subst u1)
         (try subst u2)
         (try subst u3)
         (try subst u4)
         (try subst u5)
         (try subst u6)
         (try subst u7)
         clear u
         go_wp2_with (first | (go_at_call 92; (with_reducible refine (HJ _).mono ?_); rintro e wy ⟨rfl, hby⟩))
         exact ⟨rfl, by exact below_auto, rfl⟩
        ·intro u w6 hb6 hd
         refine mB hb6 ?_; intro hc6 hf6 hz6; intros
         refine mH ?_; clear hd
         generalize u 0 = u0
         generalize u 1 = u1
         generalize u 2 = u2
         generalize u 3 = u3
         generalize u 4 = u4
         generalize u 5 = u5
         generalize u 6 = u6
         generalize u 7 = u7
         generalize u 8 = u8
         ((try simp only [forall_exists_index, and_imp]); intros)
         (try subst u0)
         (try subst u1)
         (try subst u2)
         (try subst u3)
         (try subst u4)
         (try subst u5)
         (try subst u6)
         (try subst u7)
         (try subst u8)
         clear u
         go_wp2_with (first | (go_at_call 92; (with_reducible refine (HJ _).mono ?_); rintro e wy ⟨rfl, hby⟩))
         exact ⟨rfl, by exact below_auto, w6.heap.size, rfl, Nat.le_refl _, by simp, by simp [cellsAre, go_sem]⟩
       intro u w6 hb6 hph hap
       refine mB hb6 ?_; intro hc6 hf6 hz6; intros
       have hp0 := hph 0 (by simp)
       have hp1 := hph 1 (by simp)
       have hp2 := hph 2 (by simp)
       have hp3 := hph 3 (by simp)
       have hp4 := hph 4 (by simp)
       have hp5 := hph 5 (by simp)
       have hp6 := hph 6 (by simp)
       have hp7 := hph 7 (by simp)
       have hp8 := hph 8 (by simp)
       have hp9 := hph 9 (by simp)
       clear hph hap
       simp only [List.length_cons, List.length_nil, List.take_succ_cons, List.take_zero, List.drop_succ_cons, List.drop_zero, List.cons_append, List.nil_append, putsFrom, putsBut, Act.put, qA, qB, qC, Nat.zero_add, Nat.reduceAdd, Nat.reduceEqDiff, if_true, if_false, reduceIte, Nat.zero_ne_one, Nat.one_ne_zero]
       generalize u 0 = u0 at *
       generalize u 1 = u1 at *
       generalize u 2 = u2 at *
       generalize u 3 = u3 at *
       generalize u 4 = u4 at *
       generalize u 5 = u5 at *
       generalize u 6 = u6 at *
       generalize u 7 = u7 at *
       generalize u 8 = u8 at *
       generalize u 9 = u9 at *
       clear u
       cases hp0
       cases hp1
       cases hp2
       cases hp3
       cases hp4
       cases hp5
       cases hp6
       cases hp7
       cases hp8
       obtain ⟨B9, rfl, hl9, hg9, hs9⟩ := hp9
       (try simp only [cellsAre, and_true] at hs9)
       rotate_left
       intro u w6 hb6 hph hap
       refine mB hb6 ?_; intro hc6 hf6 hz6; intros
       have hp0 := hph 0 (by simp) (by decide)
       have hp1 := hph 1 (by simp) (by decide)
       have hp2 := hph 2 (by simp) (by decide)
       have hp3 := hph 3 (by simp) (by decide)
       have hp4 := hph 4 (by simp) (by decide)
       have hp5 := hph 5 (by simp) (by decide)
       have hp6 := hph 6 (by simp) (by decide)
       have hp7 := hph 7 (by simp) (by decide)
       have hp9 := hph 9 (by simp) (by decide)
       clear hph hap
       simp only [List.length_cons, List.length_nil, List.take_succ_cons, List.take_zero, List.drop_succ_cons, List.drop_zero, List.cons_append, List.nil_append, putsFrom, putsBut, Act.put, qA, qB, qC, Nat.zero_add, Nat.reduceAdd, Nat.reduceEqDiff, if_true, if_false, reduceIte, Nat.zero_ne_one, Nat.one_ne_zero]
       generalize u 0 = u0 at *
       generalize u 1 = u1 at *
       generalize u 2 = u2 at *
       generalize u 3 = u3 at *
       generalize u 4 = u4 at *
       generalize u 5 = u5 at *
       generalize u 6 = u6 at *
       generalize u 7 = u7 at *
       generalize u 9 = u9 at *
       clear u
       cases hp0
       cases hp1
       cases hp2
       cases hp3
       cases hp4
       cases hp5
       cases hp6
       cases hp7
       obtain ⟨B9, rfl, hl9, hg9, hs9⟩ := hp9
       (try simp only [cellsAre, and_true] at hs9)
       rotate_left
       all_goals
        go_upto_region 13 with fail
        have hlB : wr.heap.size ≤ B9 := by simpa using hl9
        have hC6 : Below wr.heap.size wr w6 := by exact below_auto
        generalize hW7 : World.setCell _ _ _ = w7
        have hC7 : Below wr.heap.size wr w7 := by rw [← hW7]; exact below_auto
        have hz7 := hC7.size
        have k0 := congrArg (fun W => W.cell? ⟨B9, 0, none⟩) hW7.symm
        have k1 := congrArg (fun W => W.cell? ⟨B9, 1, none⟩) hW7.symm
        clear hW7
        simp [go_sem, *] at k0 k1
        have hB7 := HB.out.below hC7 b4
        have y0 := hB7.c0; have y1 := hB7.c1; have yf0 := hB7.f0; have yf1 := hB7.f1
        have hown7 := HL.out.kept (grown_of_below hC7) (by cases (Value.slice v n2 cv).ownBlock <;> simp)
        have hset := hB7.set z
        have hown8 := hown7.kept hset.2 (.inr (fun e => by have := (hown7.lt _ e).1; omega))
        have hb8 : Below w1.heap.size w1 _ := (hb3.trans (hC7.mono hz3)).grown hset.2 (by omega) (fun j e => by cases e; exact Nat.le_refl _)
        have HO' := hid hown8
        have HB' := hid hset.1
        have Hb8 := hid hb8
        clear hset hown7 hown8 hb8 hB7 hc6 hf6 hs9
        go_wp2_with fail
        go_roundw
        case rel => exact ⟨k + 1, v, cv, by omega, by go_num, by rw [HS2.out, hn2], hid (by rw [HS2.out, hn2]; exact HO'.out), Hb8.out, hid (by rw [HS2.out]; exact HB'.out)⟩
        case measure => simp [intOf]; omega
     ·obtain rfl : k = m := by omega
      have htk : out.take k = out := by rw [← HM.out, List.take_length]
      rw [htk] at HL HB ⊢
      have hll := absorb_len out (x, [])
      rw [HM.out] at hll
      have HR2 := HR.out
      unfold refStep at HR2
      obtain ⟨r, L, hp⟩ : ∃ r L, absorb (x, []) out = (r, L) := ⟨_, _, rfl⟩
      rw [hp] at HL HB HR2 hll ⊢
      simp only [List.length_nil, Nat.zero_add] at HL HB HR2 hll ⊢
      have HR3 := hid HR2
      obtain ⟨n2, hn2⟩ : ∃ n2, L.length = n2 := ⟨_, rfl⟩
      have HN2 := hid hn2
      rw [hn2] at HL hll ⊢
      clear hp htk hn2 HR2 HR HCo
      obtain ⟨wp, rfl⟩ : ∃ x, x = wr := ⟨_, rfl⟩
      have hbl := HB.out.lt
      have HCl : Hid (∀ W, Below wp.heap.size wp W → ∀ k, k < n2 → ∃ g, v = some ⟨g, 0, none⟩ ∧ g < wp.heap.size ∧ W.cell? ⟨g, k * 2, none⟩ = some (.int .u64 (kcode (L[k]?.getD default).lo)) ∧ W.cell? ⟨g, k * 2 + 1, none⟩ = some (.int .u64 (kcode (L[k]?.getD default).hi))) := hid fun W hW k hk => row_cells HL.out HN2.out wp.heap.size (Nat.le_refl _) W (fun j hj => hW.block j hj) k hk
      go_wp2
      go_loopw [12, 10, 11] (fun kv av dv w3 => ∃ (k : Nat) (v : Option Addr) (cv : Nat), k ≤ n2 ∧ kv = .int .i64 k ∧ av = .slice v (insF r (L.take k)).1.length cv ∧ dv = .bool (insF r (L.take k)).2 ∧ Hid (w3.ownsRow wp.heap.size 84 2 (.slice v (insF r (L.take k)).1.length cv) (insF r (L.take k)).1.length (rCells (insF r (L.take k)).1)) ∧ Below wp.heap.size wp w3) (fun kv _ _ _ => n2 - (intOf kv).toNat)
      case atStart =>
       exact ⟨0, some ⟨wp.heap.size, 0, none⟩, 0, Nat.zero_le _, rfl, rfl, rfl, hid ⟨rfl, .inr ⟨wp.heap.size, 0, #[], rfl, Nat.le_refl _, heap_alloc_new wp _, Nat.le_refl _, by unfold maxLen; omega, rfl, rfl⟩⟩, by exact below_auto⟩
      case round =>
       obtain ⟨j, va, cva, hjn, rfl, rfl, rfl, HA, hb4⟩ := hrel
       have hz4 := hb4.size
       have hBx := HB.out.below hb4 hbl
       have b0 := hBx.c0; have b1 := hBx.c1
       have hal := insF_len r (L.take j)
       rw [List.length_take, HN2.out] at hal
       by_cases hlj : j < n2
       ·have hlj' : (j : Int) < (n2 : Int) := by omega
        obtain ⟨g', rfl, hg', e0, e1⟩ := HCl.out wr hb4 j hlj
        have hgl : g' < wr.heap.size := by omega
        have hbl4 : w1.heap.size < wr.heap.size := by omega
        have hxj : L[j]? = some (L[j]?.getD default) := by rw [List.getElem?_eq_getElem (by rw [HN2.out]; omega)]; rfl
        have hst := insF_take (r := r) hxj
        generalize L[j]?.getD default = y at *
        obtain ⟨A, d, hp⟩ : ∃ A d, insF r (L.take j) = (A, d) := ⟨_, _, rfl⟩
        rw [hp] at HA hst hal ⊢
        simp only at HA hst hal ⊢
        obtain ⟨na, hna⟩ : ∃ na, A.length = na := ⟨_, rfl⟩
        rw [hna] at HA hal ⊢
        have hna2 : na ≤ 5864062014640 := by
         have : (if d = true then 1 else 0) ≤ 1 := by split <;> omega
         omega
        clear hp hxj hal
        have one : ∀ (W : World), Below wr.heap.size wr W → ∃ a' c' w', (∀ ty, (Builtin.append_ #[92, 92] ty #[.slice va na cva, .slice (some ⟨W.heap.size, 0, none⟩) 1 1]).run Tryz.prog (W.alloc (.cells #[.int .u64 (kcode y.lo), .int .u64 (kcode y.hi)] 84)) = .ok (.slice a' (na + 1) c') w') ∧
          w'.ownsRow wp.heap.size 84 2 (.slice a' (na + 1) c') (na + 1) (rCells (A ++ [y])) ∧ Below wp.heap.size wp w' := fun W hW => by
         have hown := HA.out.kept (grown_of_below hW) (by cases (Value.slice va na cva).ownBlock <;> simp)
         have hzW := hW.size
         obtain ⟨a', c', w', hr, ho', hb'⟩ := appR (l := A) (c := cva) (a := va) y (by rw [hna]; exact hown) (by omega) (by rw [hna]; omega)
         rw [hna] at hr ho'
         exact ⟨a', c', w', hr, ho', hb4.trans ((hW.mono hz4).trans hb')⟩
        cases d
        ·cases hq : decide (kcode r.lo < kcode y.lo)
         ·have HS3 : Hid (insF r (L.take (j + 1)) = (A ++ [y], false)) := hid (by rw [hst]; unfold insStep; rw [hq]; rfl)
          clear hst
          go_wp2_with fail
          go_quiet (fail)
          rename_i nq
          have hbq : Below wr.heap.size wr (wr.drewN nq) := by exact below_auto
          have q0 := (hbq.cell (p := ⟨g', _, none⟩) hgl).trans e0
          have q1 := (hbq.cell (p := ⟨g', _, none⟩) hgl).trans e1
          obtain ⟨a', c', w', hr, ho', hb'⟩ := one _ hbq
          generalize wr.drewN nq = wq at *
          have HO' := hid ho'
          clear ho' one
          go_wp2_with (at_builtin; refine Lib.wpList_append_run _ rfl _ _ _ _ rfl _ _ rfl rfl _ _ (hr _) ?_)
          go_roundw
          case rel => exact ⟨j + 1, a', c', by omega, by go_num, by rw [HS3.out]; simp [hna], by rw [HS3.out], hid (by rw [HS3.out]; simp only [List.length_append, List.length_cons, List.length_nil, hna]; exact HO'.out), hb'⟩
          case measure => simp [intOf]; omega
         ·have HS3 : Hid (insF r (L.take (j + 1)) = (A ++ [r] ++ [y], true)) := hid (by rw [hst]; unfold insStep; rw [hq]; simp)
          clear hst one
          go_wp2_with fail
          go_quiet (fail)
          rename_i nq
          have hbq : Below wr.heap.size wr (wr.drewN nq) := by exact below_auto
          have q0 := (hbq.cell (p := ⟨g', _, none⟩) hgl).trans e0
          have q1 := (hbq.cell (p := ⟨g', _, none⟩) hgl).trans e1
          have r0 := (hbq.cell (p := ⟨w1.heap.size, 0, none⟩) hbl4).trans b0
          have r1 := (hbq.cell (p := ⟨w1.heap.size, 1, none⟩) hbl4).trans b1
          have hown := HA.out.kept (grown_of_below hbq) (by cases (Value.slice va na cva).ownBlock <;> simp)
          have hzq := hbq.size
          generalize wr.drewN nq = wq at *
          obtain ⟨a', c', w', hr, ho', hb'⟩ := appR (l := A) (c := cva) (a := va) r (by rw [hna]; exact hown) (by omega) (by rw [hna]; omega)
          have z0 := (hb'.cell (p := ⟨g', _, none⟩) hg').trans q0
          have z1 := (hb'.cell (p := ⟨g', _, none⟩) hg').trans q1
          have hzq' := hb'.size
          have hlA : (A ++ [r]).length = na + 1 := by rw [List.length_append, hna]; rfl
          obtain ⟨a2, c2, w2', hr2, ho2, hb2⟩ := appR (l := A ++ [r]) (c := c') (a := a') (w := w') (base := wp.heap.size) y (by rw [hlA]; rw [hna] at ho'; exact ho') (by omega) (by rw [hlA]; omega)
          have Hb5 := hid (hb4.trans ((hbq.mono hz4).trans (hb'.trans hb2)))
          rw [hna] at hr
          rw [hlA] at hr2
          have HO' := hid ho2
          clear ho' ho2 hown
          go_upto_region 23 with (at_builtin; refine Lib.wpList_append_run _ rfl _ _ _ _ rfl _ _ rfl rfl _ _ (hr _) ?_)
          go_wp2_with (at_builtin; refine Lib.wpList_append_run _ rfl _ _ _ _ rfl _ _ rfl rfl _ _ (hr2 _) ?_)
          go_roundw
          case rel => exact ⟨j + 1, a2, c2, by omega, by go_num, by rw [HS3.out]; simp [hna], by rw [HS3.out], hid (by rw [HS3.out]; simp only [List.length_append, List.length_cons, List.length_nil, hna]; rw [hlA] at HO'; exact HO'.out), Hb5.out⟩
          case measure => simp [intOf]; omega
        ·have HS3 : Hid (insF r (L.take (j + 1)) = (A ++ [y], true)) := hid (by rw [hst]; rfl)
         clear hst
         go_wp2_with fail
         go_quiet (fail)
         rename_i nq
         have hbq : Below wr.heap.size wr (wr.drewN nq) := by exact below_auto
         have q0 := (hbq.cell (p := ⟨g', _, none⟩) hgl).trans e0
         have q1 := (hbq.cell (p := ⟨g', _, none⟩) hgl).trans e1
         obtain ⟨a', c', w', hr, ho', hb'⟩ := one _ hbq
         generalize wr.drewN nq = wq at *
         have HO' := hid ho'
         clear ho' one
         go_wp2_with (at_builtin; refine Lib.wpList_append_run _ rfl _ _ _ _ rfl _ _ rfl rfl _ _ (hr _) ?_)
         go_roundw
         case rel => exact ⟨j + 1, a', c', by omega, by go_num, by rw [HS3.out]; simp [hna], by rw [HS3.out], hid (by rw [HS3.out]; simp only [List.length_append, List.length_cons, List.length_nil, hna]; exact HO'.out), hb'⟩
         case measure => simp [intOf]; omega
       ·obtain rfl : j = n2 := by omega
        have htk : L.take j = L := by rw [← HN2.out, List.take_length]
        have hfin := insF_fin r L
        rw [htk] at HA hal ⊢
        have hbw : Below w.heap.size w wp := hb.trans ((hC15.trans (hb3.mono hz1)).mono hz)
        have hzw : w.heap.size ≤ wp.heap.size := hbw.size
        obtain ⟨A, d, hp⟩ : ∃ A d, insF r L = (A, d) := ⟨_, _, rfl⟩
        rw [hp] at HA hfin hal ⊢
        simp only at HA hfin hal ⊢
        obtain ⟨na, hna⟩ : ∃ na, A.length = na := ⟨_, rfl⟩
        rw [hna] at HA hal ⊢
        have hna2 : na ≤ 5864062014640 := by
         have : (if d = true then 1 else 0) ≤ 1 := by split <;> omega
         omega
        clear hp hal htk
        cases d
        ·rw [if_neg (by simp)] at hfin
         rw [← hfin] at HR3
         obtain ⟨a', c', w', hr, ho', hb'⟩ := appR (l := A) (c := cva) (a := va) r (by rw [hna]; exact HA.out) (by omega) (by rw [hna]; omega)
         rw [hna] at hr
         have HO' := hid (own_le ho' hzw)
         have Hb5 := hid (hbw.trans ((hb4.trans hb').mono hzw))
         have Hl : Hid ((A ++ [r]).length = A.length + 1) := hid (by simp)
         clear ho' hfin
         go_wp2_with (at_builtin; refine Lib.wpList_append_run _ rfl _ _ _ _ rfl _ _ rfl rfl _ _ (hr _) ?_)
         go_roundw
         case rel => exact ⟨i + 1, a', c', by omega, by go_num, by rw [HR3.out, Hl.out, hna], hid (by rw [HR3.out, Hl.out]; exact HO'.out), Hb5.out⟩
         case measure => simp [intOf]; omega
        ·rw [if_pos rfl] at hfin
         rw [← hfin] at HR3
         have HO' := hid (own_le HA.out hzw)
         have Hb5 := hid (hbw.trans (hb4.mono hzw))
         clear hfin
         go_wp2_with fail
         go_roundw
         case rel => exact ⟨i + 1, va, cva, by omega, by go_num, by rw [HR3.out, hna], hid (by rw [HR3.out, hna]; exact HO'.out), Hb5.out⟩
         case measure => simp [intOf]; omega
  ·obtain rfl : i = n := by omega
   have hfin : ∀ W, Below wo.heap.size wo W → RNormRet w (refAllN [] (forms ss)) (.returned (.slice u (refAllN [] (forms (ss.take i))).length cu)) W := fun W h1 => by
    have hown := HO.out
    rw [HT.out] at hown ⊢
    exact ⟨u, cu, rfl, hown.kept (grown_of_below h1) (by cases (Value.slice u (refAllN [] (forms ss)).length cu).ownBlock <;> simp), hb.trans (h1.mono hz)⟩
   have HFn := hid hfin
   clear hfin
   go_wp2
   go_ret
   exact HFn.out _ (by exact below_auto)
end Go.Proofs.YtfbachckdadhoaaGreat.N
namespace Go.Proofs.YtfbachckdadhoaaGreat.N
set_option linter.unusedVariables false
open Go.RowKit Fl

def RK.raw (k : RK) : SpanV := ⟨k.lo.bits, k.hi.bits, false, false⟩
theorem raw_rg (k : RK) : (RK.raw k).rg = some (k.lo, k.hi) := canonS_canon _ _ k.le
theorem raw_fO (k : RK) : fO (RK.raw k) = [k] := by
 rw [fO_some (raw_rg k)]
theorem raw_forms (l : List RK) : forms (l.map RK.raw) = l := by
 induction l with
 | nil => rfl
 | cons x l ih =>
  show fO (RK.raw x) ++ forms (l.map RK.raw) = _
  rw [raw_fO, ih]; rfl
theorem raw_inj {l l' : List RK} (h : l.map RK.raw = l'.map RK.raw) : l = l' := by rw [← raw_forms l, h, raw_forms]
theorem own_sat {w : World} {base : Nat} {a : Option Addr} {c : Nat} {l : List RK} (h : w.ownsRow base 87 4 (.slice a l.length c) l.length (sCells l)) (hl : l.length ≤ 5864062014634) : SAt w a (l.map RK.raw) := by
 have at0 : ∀ i, i < l.length → (l.map RK.raw)[i]?.getD default = RK.raw (l[i]?.getD default) := fun i hi => by simp [List.getElem?_eq_getElem hi]
 refine ⟨?_, fun i hi => ?_, by simp; unfold maxLen; omega⟩
 ·rcases h.2 with ⟨h1, h2⟩ | ⟨g, cap, cur, h1, _⟩
  ·exact .inl (by rw [List.eq_nil_of_length_eq_zero h2]; rfl)
  ·cases h1
   have hcl := h.cells (g := g) rfl
   refine .inr ⟨g, 0, rfl, (h.lt g rfl).2, fun i hi => ?_⟩
   have hi' : i < l.length := by simpa using hi
   have hx : l[i]? = some (l[i]?.getD default) := by rw [List.getElem?_eq_getElem hi']; rfl
   rw [at0 i hi', Nat.zero_add]
   have at' : ∀ t v, t < 4 → (enc (l[i]?.getD default))[t]? = some v → w.cell? ⟨g, i * 4 + t, none⟩ = some v := fun t v ht hv => by rw [← addr0]; exact hcl _ v ((flat_get enc_len hx ht).trans hv)
   exact ⟨at' 0 _ (by omega) rfl, at' 1 _ (by omega) rfl, at' 2 _ (by omega) rfl, at' 3 _ (by omega) rfl⟩
 ·have hi' : i < l.length := by simpa using hi
  rw [at0 i hi']
  exact ⟨Key.bits_lt _, Key.bits_lt _⟩

set_option maxHeartbeats 1000000 in
set_option maxRecDepth 100000 in
theorem refSpans_any (a : Option Addr) (c base : Nat) (l : List RK) (w : World) (hown : w.ownsRow base 84 2 (.slice a l.length c) l.length (rCells l)) (hlen : l.length ≤ 5864062014634) :
  Calls Tryz.prog 40 #[.slice a l.length c] w (NormRet w l) := by
 obtain ⟨m, hm⟩ : ∃ m, l.length = m := ⟨_, rfl⟩
 rw [hm] at hown hlen ⊢
 have HM := hid hm
 have HC : Hid (∀ W, Below w.heap.size w W → ∀ k, k < m → ∃ g, a = some ⟨g, 0, none⟩ ∧ g < w.heap.size ∧ W.cell? ⟨g, k * 2, none⟩ = some (.int .u64 (kcode (l[k]?.getD default).lo)) ∧ W.cell? ⟨g, k * 2 + 1, none⟩ = some (.int .u64 (kcode (l[k]?.getD default).hi))) := hid fun W hW k hk => row_cells hown HM.out w.heap.size (Nat.le_refl _) W (fun j hj => hW.block j hj) k hk
 have h00 : Below w.heap.size w (w.alloc (.cells #[] 87)) := by exact below_auto
 have H0 : Hid ((w.alloc (.cells #[] 87)).ownsRow w.heap.size 87 4 (.slice (some ⟨w.heap.size, 0, none⟩) 0 0) 0 []) :=
  hid ⟨rfl, .inr ⟨w.heap.size, 0, #[], rfl, Nat.le_refl _, heap_alloc_new w _, Nat.le_refl _, by unfold maxLen; omega, rfl, rfl⟩⟩
 clear hm hown
 go_enter Tryz.func40, Tryz.ntmps40
 go_wp2
 go_loopw [4, 3] (fun iv uv wr => ∃ (i : Nat) (u : Option Addr) (cu : Nat), i ≤ m ∧ iv = .int .i64 i ∧ uv = .slice u (l.take i).length cu ∧ Hid (wr.ownsRow w.heap.size 87 4 (.slice u (l.take i).length cu) (l.take i).length (sCells (l.take i))) ∧ Below w.heap.size w wr) (fun iv _ _ => m - (intOf iv).toNat)
 case atStart => exact ⟨0, some ⟨w.heap.size, 0, none⟩, 0, Nat.zero_le _, rfl, rfl, H0, h00⟩
 case round =>
  obtain ⟨i, u, cu, hin, rfl, rfl, HO, hb⟩ := hrel
  have hz := hb.size
  have hlt0 : (l.take i).length = i := by rw [List.length_take, HM.out]; omega
  by_cases hlt : i < m
  ·have hlt' : (i : Int) < (m : Int) := by omega
   obtain ⟨g, rfl, hg, e0, e1⟩ := HC.out wr hb i hlt
   have hx : l[i]? = some (l[i]?.getD default) := by rw [List.getElem?_eq_getElem (by rw [HM.out]; omega)]; rfl
   have HT : Hid (l.take (i + 1) = l.take i ++ [l[i]?.getD default]) := hid (by rw [List.take_add_one, hx]; rfl)
   have HO0 := HO.out
   generalize l[i]?.getD default = x at *
   have hgw : g < wr.heap.size := by omega
   rw [hlt0] at HO ⊢
   have Hl0 := hid hlt0
   clear hlt0 hx
   have HSp : ∀ W, Calls Tryz.prog 68 #[.agg #[.int .u64 (kcode x.lo), .int .u64 (kcode x.hi)]] W (Ret (.agg #[.float .f64 x.lo.bits, .float .f64 x.hi.bits, .bool false, .bool false]) W) := fun W => refSpan_some x.lo x.hi x.le W
   have one : ∀ W, Below wr.heap.size wr W → ∃ a' c' w', (∀ ty, (Builtin.append_ #[30, 30] ty #[.slice u i cu, .slice (some ⟨W.heap.size, 0, none⟩) 1 1]).run Tryz.prog (W.alloc (.cells #[.float .f64 x.lo.bits, .float .f64 x.hi.bits, .bool false, .bool false] 87)) = .ok (.slice a' (i + 1) c') w') ∧
     Hid (w'.ownsRow w.heap.size 87 4 (.slice a' (i + 1) c') (i + 1) (sCells (l.take i ++ [x]))) ∧ Below w.heap.size w w' := fun W hW => by
    have hown := HO0.kept (grown_of_below hW) (by cases (Value.slice u (l.take i).length cu).ownBlock <;> simp)
    have hbW := hb.trans (hW.mono hz)
    obtain ⟨a', c', w', hr, ho', hb'⟩ := app1 x hbW hown hbW.size (by rw [Hl0.out]; omega)
    rw [Hl0.out] at hr ho'
    exact ⟨a', c', w', hr, hid ho', hb'⟩
   go_wp2_with (first | (go_at_call 68; (with_reducible refine (HSp _).mono ?_); rintro e w1 ⟨rfl, hb1⟩; refine mB hb1 ?_; intro hc1 hf1 hz1; intros; (try have hu1_wr_0 : wr.heap.size < w1.heap.size := by omega); (try have hu1_wr_1 : wr.heap.size + 1 < w1.heap.size := by omega)) | (obtain ⟨a', c', w', hr, HO', hb'⟩ := one w1 (by exact below_auto); at_builtin; refine Lib.wpList_append_run _ rfl _ _ _ _ rfl _ _ rfl rfl _ _ (hr _) ?_))
   go_roundw
   case rel => exact ⟨i + 1, a', c', by omega, by go_num, by rw [HT.out, List.length_append, Hl0.out]; rfl, hid (by rw [HT.out, List.length_append, Hl0.out]; exact HO'.out), hb'⟩
   case measure => simp [intOf]; omega
  ·obtain rfl : i = m := by omega
   have htk : l.take i = l := by rw [← HM.out, List.take_length]
   have hfin : ∀ W, Below wr.heap.size wr W → NormRet w l (.returned (.slice u (l.take i).length cu)) W := fun W h1 => by
    have hown := HO.out
    rw [htk] at hown ⊢
    exact ⟨u, cu, rfl, hown.kept (grown_of_below h1) (by cases (Value.slice u l.length cu).ownBlock <;> simp), hb.trans (h1.mono hz)⟩
   have HFn := hid hfin
   clear hfin
   go_wp2
   go_ret
   exact HFn.out _ (by exact below_auto)

theorem sameSp_iff (x y : SpanV) : sameSp x.lo x.hi x.a x.b y.lo y.hi y.a y.b = true ↔ x = y := by
 unfold sameSp
 rw [decide_eq_true_eq]
 constructor
 ·rintro ⟨h1, h2, h3, h4⟩
  cases x; cases y
  simp only at h1 h2 h3 h4
  subst h1 h2 h3 h4; rfl
 ·rintro rfl; exact ⟨rfl, rfl, rfl, rfl⟩

set_option maxHeartbeats 1000000 in
set_option maxRecDepth 100000 in
theorem refSameS_any (a a' : Option Addr) (c c' n n' : Nat) (xs ys : List SpanV) (v : Bool) (w : World) (hn : xs.length = n) (hn' : ys.length = n') (hx : SAt w a xs) (hy : SAt w a' ys) (hv : v = true ↔ xs = ys) :
  Calls Tryz.prog 39 #[.slice a n c, .slice a' n' c'] w (Ret (.bool v) w) := by
 by_cases hnn : n = n'
 ·subst hnn
  have hb1 : ((n : Int) != (n : Int)) = false := by simp
  obtain ⟨hr, _, hm⟩ := hx
  obtain ⟨hr', _, _⟩ := hy
  unfold maxLen at hm
  rw [hn] at hm
  have HN := hid hn; have HN' := hid hn'; have HV := hid hv
  clear hn hn' hv
  go_enter Tryz.func39, Tryz.ntmps39
  go_wp2
  go_loopw [5] (fun iv wr => ∃ k : Nat, k ≤ n ∧ iv = .int .i64 k ∧ Hid (∀ j, j < k → xs[j]? = ys[j]?) ∧ Below w.heap.size w wr) (fun iv _ => n - (intOf iv).toNat)
  case atStart => exact ⟨0, Nat.zero_le _, rfl, hid fun j hj => absurd hj (Nat.not_lt_zero _), Below.refl _ _⟩
  case round =>
   obtain ⟨k, hk, rfl, HR, hbw⟩ := hrel
   have hsz := hbw.size
   by_cases hlt : k < n
   ·have hlt' : (k : Int) < (n : Int) := by omega
    have k1 : k < xs.length := by rw [HN.out]; exact hlt
    have k2 : k < ys.length := by rw [HN'.out]; exact hlt
    rcases hr with h0 | ⟨b, o, rfl, hb, hc⟩
    ·rw [h0] at k1; simp at k1
    rcases hr' with h0 | ⟨b', o', rfl, hb', hc'⟩
    ·rw [h0] at k2; simp at k2
    obtain ⟨c0, c1, c2, c3⟩ := hc k k1
    obtain ⟨e0, e1, e2, e3⟩ := hc' k k2
    have hxs := hid (sp_some k1)
    have hys := hid (sp_some k2)
    have kk := fun j => hbw.cell (p := ⟨b, j, none⟩) hb
    have kk' := fun j => hbw.cell (p := ⟨b', j, none⟩) hb'
    have d0 := (kk _).trans c0; have d1 := (kk _).trans c1; have d2 := (kk _).trans c2; have d3 := (kk _).trans c3
    have f0 := (kk' _).trans e0; have f1 := (kk' _).trans e1; have f2 := (kk' _).trans e2; have f3 := (kk' _).trans e3
    clear c0 c1 c2 c3 e0 e1 e2 e3 kk kk' hc hc' k1 k2
    generalize xs[k]?.getD default = x at *
    generalize ys[k]?.getD default = y at *
    have hbl : b < wr.heap.size := by omega
    have hbl' : b' < wr.heap.size := by omega
    have H := fun W => sameSpan_any x.lo x.hi y.lo y.hi x.a x.b y.a y.b W
    have hs := sameSp_iff x y
    cases hp : sameSp x.lo x.hi x.a x.b y.lo y.hi y.a y.b
    ·rw [hp] at H hs
     have Hv : Hid (v = false) := hid (by
      cases v
      ·rfl
      ·have := HV.out.1 rfl
       rw [this] at hxs
       have := hxs.out.symm.trans hys.out
       cases this
       exact (hs.2 rfl).symm)
     clear hp hs
     go_wp2
     (refine wp_region_ext (by kernel_rfl) (by kernel_rfl) ?_; (repeat (go_big_quiet_step (first | (go_at_call 91; with_reducible exact Calls.ext_of (H _))))); refine mX ?_; intro w1 hb1 hc1 hf1 hz1; intros; (try have hu1_wr_0 : wr.heap.size < w1.heap.size := by omega); (try have hu1_wr_1 : wr.heap.size + 1 < w1.heap.size := by omega))
     go_wp2
     go_ret
     exact ⟨ret_bool (by rw [Hv.out]), by exact below_auto⟩
    ·rw [hp] at H hs
     have hxy : x = y := hs.1 rfl
     have HR2 : Hid (∀ j, j < k + 1 → xs[j]? = ys[j]?) := hid fun j hj => by
      by_cases h : j < k
      ·exact HR.out j h
      ·obtain rfl : j = k := by omega
       rw [hxs.out, hys.out, hxy]
     clear hp hs hxy
     go_wp2
     (refine wp_region_ext (by kernel_rfl) (by kernel_rfl) ?_; (repeat (go_big_quiet_step (first | (go_at_call 91; with_reducible exact Calls.ext_of (H _))))); refine mX ?_; intro w1 hb1 hc1 hf1 hz1; intros; (try have hu1_wr_0 : wr.heap.size < w1.heap.size := by omega); (try have hu1_wr_1 : wr.heap.size + 1 < w1.heap.size := by omega))
     go_wp2
     go_roundw
     case rel => exact ⟨k + 1, by omega, by go_num, HR2, by exact below_auto⟩
     case measure => simp [intOf]; omega
   ·obtain rfl : k = n := by omega
    have Hv : Hid (v = true) := hid (HV.out.2 (by
     apply List.ext_getElem?
     intro j
     by_cases hj : j < k
     ·exact HR.out j hj
     ·rw [List.getElem?_eq_none (by rw [HN.out]; omega), List.getElem?_eq_none (by rw [HN'.out]; omega)]))
    go_wp2
    go_ret
    exact ⟨ret_bool (by rw [Hv.out]), by exact below_auto⟩
 ·have hb1 : ((n : Int) != (n' : Int)) = true := by simp; omega
  have Hv : Hid (v = false) := hid (by
   cases v
   ·rfl
   ·have := hv.1 rfl
    rw [this] at hn; omega)
  clear hv hx hy hn hn'
  go_enter Tryz.func39, Tryz.ntmps39
  go_wp2
  go_ret
  exact ⟨ret_bool (by rw [Hv.out]), by exact below_auto⟩
end Go.Proofs.YtfbachckdadhoaaGreat.N
namespace Go.Proofs.YtfbachckdadhoaaGreat.N
set_option linter.unusedVariables false
open Go.RowKit Fl

def encV (s : SpanV) : List Value := [.float .f64 s.lo, .float .f64 s.hi, .bool s.a, .bool s.b]
theorem encV_len (s : SpanV) : (encV s).length = 4 := rfl
theorem encV_one (s : SpanV) : ∀ u ∈ encV s, u.oneCell' = true := by intro u hu; simp [encV] at hu; rcases hu with rfl | rfl | rfl | rfl <;> rfl
def vCells (l : List SpanV) : List Value := l.flatMap encV
theorem vCells_len (l : List SpanV) : (vCells l).length = l.length * 4 := flat_len encV_len l
theorem sat_cells {w : World} {a : Option Addr} {ss : List SpanV} (h : SAt w a ss) (h0 : 0 < ss.length) : ∃ b o, a = some ⟨b, o, none⟩ ∧ b < w.heap.size ∧ ∀ j u, (vCells ss)[j]? = some u → w.cell? ((⟨b, o, none⟩ : Addr).add j) = some u := by
 rcases h.row with h1 | ⟨b, o, rfl, hb, hc⟩
 ·rw [h1] at h0; simp at h0
 ·refine ⟨b, o, rfl, hb, fun j u hu => ?_⟩
  have hj : j < ss.length * 4 := by rw [← vCells_len]; exact (List.getElem?_eq_some_iff.1 hu).1
  have hi : j / 4 < ss.length := by omega
  have hx := sp_some hi
  obtain ⟨c0, c1, c2, c3⟩ := hc (j / 4) hi
  have hg := flat_get encV_len hx (j := j % 4) (by omega)
  have hj2 : j / 4 * 4 + j % 4 = j := by omega
  rw [hj2] at hg
  have hu2 : (encV (ss[j / 4]?.getD default))[j % 4]? = some u := hg.symm.trans hu
  rw [Addr.add_lit]
  have hm : j % 4 = 0 ∨ j % 4 = 1 ∨ j % 4 = 2 ∨ j % 4 = 3 := by omega
  rcases hm with e | e | e | e <;> rw [e] at hu2 <;> simp only [encV, List.getElem?_cons_zero, List.getElem?_cons_succ, Option.some.injEq] at hu2 <;> subst hu2
  ·rw [← c0]; congr 2; omega
  ·rw [← c1]; congr 2; omega
  ·rw [← c2]; congr 2; omega
  ·rw [← c3]; congr 2; omega
theorem own_satV {w : World} {base n : Nat} {a : Option Addr} {c : Nat} {l : List SpanV} (hn : l.length = n) (h : w.ownsRow base 87 4 (.slice a n c) n (vCells l)) (hl : n ≤ 5864062014634) (hlt : ∀ i, i < l.length → (l[i]?.getD default).lo < 2 ^ 64 ∧ (l[i]?.getD default).hi < 2 ^ 64) : SAt w a l := by
 refine ⟨?_, hlt, by unfold maxLen; omega⟩
 rcases h.2 with ⟨h1, h2⟩ | ⟨g, cap, cur, h1, _⟩
 ·exact .inl (List.eq_nil_of_length_eq_zero (by omega))
 ·cases h1
  have hcl := h.cells (g := g) rfl
  refine .inr ⟨g, 0, rfl, (h.lt g rfl).2, fun i hi => ?_⟩
  have hx : l[i]? = some (l[i]?.getD default) := by rw [List.getElem?_eq_getElem hi]; rfl
  rw [Nat.zero_add]
  have at' : ∀ t v, t < 4 → (encV (l[i]?.getD default))[t]? = some v → w.cell? ⟨g, i * 4 + t, none⟩ = some v := fun t v ht hv => by rw [← addr0]; exact hcl _ v ((flat_get encV_len hx ht).trans hv)
  exact ⟨at' 0 _ (by omega) rfl, at' 1 _ (by omega) rfl, at' 2 _ (by omega) rfl, at' 3 _ (by omega) rfl⟩

theorem copy_all (w : World) (a : Option Addr) (c n : Nat) (ss : List SpanV) (hn : ss.length = n) (h : SAt w a ss) (hl : n ≤ 5864062014634) :
  ∃ a' c' w', (∀ ty, (Builtin.append_ #[30, 30] ty #[.slice (some ⟨w.heap.size, 0, none⟩) 0 0, .slice a n c]).run Tryz.prog (w.alloc (.cells #[] 87)) = .ok (.slice a' n c') w') ∧
   w'.ownsRow w.heap.size 87 4 (.slice a' n c') n (vCells ss) ∧ Below w.heap.size w w' := by
 obtain ⟨i0, hi0, hz0, hzs, hzb⟩ := info_parts spanInfo
 have hb1 : Below w.heap.size w (w.alloc (.cells #[] 87)) := by exact below_auto
 have hown0 : (w.alloc (.cells #[] 87)).ownsRow w.heap.size 87 4 (.slice (some ⟨w.heap.size, 0, none⟩) 0 0) 0 [] :=
  ⟨rfl, .inr ⟨w.heap.size, 0, #[], rfl, Nat.le_refl _, heap_alloc_new w _, Nat.le_refl _, by unfold maxLen; omega, rfl, rfl⟩⟩
 by_cases h0 : n = 0
 ·subst h0
  have hs : ss = [] := List.eq_nil_of_length_eq_zero hn
  subst hs
  refine ⟨some ⟨w.heap.size, 0, none⟩, 0, _, fun ty => ?_, hown0, hb1⟩
  cases a with
  | none => simp [Builtin.append_, run_underlying Tryz.underlying30, Builtin.lenOf, Builtin.firstCells, sizeOf, typeInfo, hi0, go_sem]
  | some a => simp [Builtin.append_, run_underlying Tryz.underlying30, Builtin.lenOf, Builtin.firstCells, sizeOf, typeInfo, hi0, go_sem]
 ·obtain ⟨b, o, rfl, hb, hcl⟩ := sat_cells (h.below hb1) (by omega)
  obtain ⟨v', w', hr, h2, h3⟩ := run_append_own2 (P := Tryz.prog) (w.alloc (.cells #[] 87)) w.heap.size 30 87 i0 _ 4 24 Tryz.underlying30 hi0 hz0 hzs hzb rfl (by omega) _ _ _ hown0 ⟨b, o, none⟩ n c (vCells ss) (by rw [vCells_len, hn]) hcl
   (fun u hu => by obtain ⟨s, _, hs⟩ := List.mem_flatMap.1 hu; exact encV_one s u hs) (by omega) (by unfold maxLen; omega) (by omega) (by simp)
  rw [Nat.zero_add, List.nil_append] at h2
  have hv : ∃ va vc, v' = .slice va n vc := by
   rcases h2.2 with ⟨rfl, h4⟩ | ⟨g, cap, cur, rfl, _⟩
   ·omega
   ·exact ⟨_, _, rfl⟩
  obtain ⟨a', c', rfl⟩ := hv
  exact ⟨a', c', w', hr, h2, hb1.grown h3.1 (by simp) (fun k hk => (hown0.lt k hk).1)⟩

theorem own_any4 {w : World} {base g cv m i : Nat} {xs : List Value} (v0 v1 v2 v3 : Value) (hi : i < m) (h : w.ownsRow base 87 4 (.slice (some ⟨g, 0, none⟩) m cv) m xs) :
  ∃ xs', ((((w.setCell ⟨g, i * 4, none⟩ v0).setCell ⟨g, i * 4 + 1, none⟩ v1).setCell ⟨g, i * 4 + 2, none⟩ v2).setCell ⟨g, i * 4 + 3, none⟩ v3).ownsRow base 87 4 (.slice (some ⟨g, 0, none⟩) m cv) m xs' ∧
  w.grownBy ((((w.setCell ⟨g, i * 4, none⟩ v0).setCell ⟨g, i * 4 + 1, none⟩ v1).setCell ⟨g, i * 4 + 2, none⟩ v2).setCell ⟨g, i * 4 + 3, none⟩ v3) (some g) := by
 rcases h.2 with ⟨h1, _⟩ | ⟨g', cap, cur, h1, hbase, hb, hnc, hcm, hcs, htake⟩
 ·cases h1
 ·cases h1
  rw [setCell_eq_setRow w g (i * 4) _ _ _ _ hb]
  have hb1 := setRow_heap w g cur (cur.setIfInBounds (i * 4) v0) 87 (0, 0) hb
  rw [setCell_eq_setRow _ g (i * 4 + 1) _ _ _ _ hb1]
  have hb2 := setRow_heap _ g _ ((cur.setIfInBounds (i * 4) v0).setIfInBounds (i * 4 + 1) v1) 87 (0, 0) hb1
  rw [setCell_eq_setRow _ g (i * 4 + 2) _ _ _ _ hb2]
  have hb3 := setRow_heap _ g _ (((cur.setIfInBounds (i * 4) v0).setIfInBounds (i * 4 + 1) v1).setIfInBounds (i * 4 + 2) v2) 87 (0, 0) hb2
  rw [setCell_eq_setRow _ g (i * 4 + 3) _ _ _ _ hb3]
  have hb4 := setRow_heap _ g _ ((((cur.setIfInBounds (i * 4) v0).setIfInBounds (i * 4 + 1) v1).setIfInBounds (i * 4 + 2) v2).setIfInBounds (i * 4 + 3) v3) 87 (0, 0) hb3
  refine ⟨_, ⟨?_, .inr ⟨g, cv, _, rfl, hbase, hb4, hnc, hcm, by simpa using hcs, rfl⟩⟩, ((grownBy_setRow w g _).trans (grownBy_setRow _ g _)).trans ((grownBy_setRow _ g _).trans (grownBy_setRow _ g _))⟩
  have : m * 4 ≤ cur.size := by rw [hcs]; exact Nat.mul_le_mul_right _ hnc
  simp; omega
theorem own_there {w : World} {base g cv m i : Nat} {xs : List Value} (hi : i < m) (h : w.ownsRow base 87 4 (.slice (some ⟨g, 0, none⟩) m cv) m xs) :
  (∀ t, t < 4 → ∃ v, w.cell? ⟨g, i * 4 + t, none⟩ = some v) ∧ ∀ o, w.frozen? ⟨g, o, none⟩ = false := by
 rcases h.2 with ⟨h1, _⟩ | ⟨g', cap, cur, h1, hbase, hb, hnc, hcm, hcs, htake⟩
 ·cases h1
 ·cases h1
  refine ⟨fun t ht => ?_, fun o => by simp [World.frozen?, hb]⟩
  have : m * 4 ≤ cur.size := by rw [hcs]; exact Nat.mul_le_mul_right _ hnc
  refine ⟨cur[i * 4 + t]'(by omega), ?_⟩
  rw [cell_row hb, Array.getElem?_eq_getElem]
end Go.Proofs.YtfbachckdadhoaaGreat.N
