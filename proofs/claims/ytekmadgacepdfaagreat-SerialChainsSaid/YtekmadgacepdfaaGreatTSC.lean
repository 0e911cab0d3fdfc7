/- The walk of SerialChains. -/
import Derived.Test.YtekmadgacepdfaaGreatMTQ
import Derived.Test.YtekmadgacepdfaaGreatFlAd
namespace Go.Proofs.YtekmadgacepdfaaGreat.T
set_option linter.unusedVariables false
open Go.RowKit Fl Go.Shelf
set_option linter.unusedSimpArgs false

/-! Rows of transactions. -/
def dCells (l : List DoneV) : List Value := l.flatMap dEnc
theorem dCells_len (l : List DoneV) : (dCells l).length = l.length * 7 := flat_len (f := dEnc) (K := 7) (fun _ => rfl) l
theorem dCells_one (l : List DoneV) : ∀ u ∈ dCells l, u.oneCell' = true := by
 intro u hu
 obtain ⟨r, _, hr⟩ := List.mem_flatMap.1 hu
 simp only [dEnc, List.mem_cons, List.not_mem_nil, or_false] at hr
 rcases hr with rfl | rfl | rfl | rfl | rfl | rfl | rfl <;> rfl
theorem doneInfo : (Tryz.prog.info? 73).map (fun i => (i.zero, i.size, i.bytes)) = some (some (.agg #[.int .i64 0, .int .i64 0, .int .i64 0, .int .i64 0, .slice none 0 0, .slice none 0 0, .slice none 0 0]), 7, 104) := by kernel_rfl
theorem flat_at {α : Type} (f : α → List Value) (K : Nat) (hf : ∀ x, (f x).length = K) : ∀ (l : List α) (i t : Nat) (hi : i < l.length), t < K → (l.flatMap f)[i * K + t]? = (f l[i])[t]?
 | [], i, t, hi, _ => by simp at hi
 | a :: l, 0, t, hi, ht => by
  rw [List.flatMap_cons, List.getElem?_append_left (by rw [hf]; omega)]
  simp
 | a :: l, i + 1, t, hi, ht => by
  rw [List.flatMap_cons, List.getElem?_append_right (by rw [hf, Nat.add_mul]; omega), hf, show (i + 1) * K + t - K = i * K + t by rw [Nat.add_mul]; omega]
  exact flat_at f K hf l i t (by simpa using hi) ht
theorem flat_set {α : Type} (f : α → List Value) (K : Nat) (hf : ∀ x, (f x).length = K) (v : Value) (x' : α) : ∀ (l : List α) (i t : Nat) (hi : i < l.length), t < K → f x' = (f l[i]).set t v → (l.flatMap f).set (i * K + t) v = (l.set i x').flatMap f
 | [], i, t, hi, _, _ => by simp at hi
 | a :: l, 0, t, hi, ht, h => by
  rw [List.flatMap_cons, List.set_append_left _ _ (by rw [hf]; omega), List.set_cons_zero, List.flatMap_cons, h]
  simp
 | a :: l, i + 1, t, hi, ht, h => by
  rw [List.flatMap_cons, List.set_append_right _ _ (by rw [hf, Nat.add_mul]; omega), hf, show (i + 1) * K + t - K = i * K + t by rw [Nat.add_mul]; omega, List.set_cons_succ, List.flatMap_cons]
  rw [flat_set f K hf v x' l i t (by simpa using hi) ht (by simpa using h)]
theorem own_sliceD {w : World} {B n : Nat} {v : Value} {cs : List Value} (h : w.ownsRow B 73 7 v n cs) : ∃ va vc, v = .slice va n vc := by
 rcases h.2 with ⟨rfl, h0⟩ | ⟨g, cap, cur, rfl, _⟩
 ·have h1 := h.1
  rw [h0] at h1
  exact ⟨none, 0, by rw [show n = 0 by simp at h1; omega]⟩
 ·exact ⟨_, _, rfl⟩
/-- A transaction is added. -/
theorem appD {w : World} {base n : Nat} {a : Option Addr} {c : Nat} {xs : List DoneV} (y : DoneV) (hn : xs.length = n) (hown : w.ownsRow base 73 7 (.slice a n c) n (dCells xs)) (hbase : base ≤ w.heap.size) (hl : n ≤ 100000) :
  ∃ a' c' w', (∀ ty, (Builtin.append_ #[67, 67] ty #[.slice a n c, .slice (some ⟨w.heap.size, 0, none⟩) 1 1]).run Tryz.prog (w.alloc (.cells (dEnc y).toArray 73)) = .ok (.slice a' (n + 1) c') w') ∧
   w'.ownsRow base 73 7 (.slice a' (n + 1) c') (n + 1) (dCells (xs ++ [y])) ∧ Below base w w' ∧ w.grownBy w' (Value.slice a n c).ownBlock := by
 obtain ⟨i0, hi0, hz0, hzs, hzb⟩ := info_parts doneInfo
 have hb1 : Below w.heap.size w (w.alloc (.cells (dEnc y).toArray 73)) := by exact below_auto
 have hown1 := hown.kept (K.grown_of_below hb1) (by cases (Value.slice a n c).ownBlock <;> simp)
 obtain ⟨v', w', hr, h2, h3⟩ := run_append_own2 (P := Tryz.prog) (w.alloc (.cells (dEnc y).toArray 73)) base 67 73 i0 _ 7 104 Tryz.underlying67 hi0 hz0 hzs hzb rfl (by omega) _ _ _ hown1 ⟨w.heap.size, 0, none⟩ 1 1 (dEnc y) rfl
  (fun j u hj => by
   have hrow : (w.alloc (.cells (dEnc y).toArray 73)).heap[w.heap.size]? = some (.cells (dEnc y).toArray 73 (0, 0)) := heap_alloc_new w _
   rw [K.addr0, cell_of_row _ _ j _ _ (0, 0) hrow]
   rw [← hj]; simp) (fun u hu => dCells_one [y] u (by unfold dCells; simpa using hu)) (by omega) (by unfold maxLen; omega) (by omega) (by simp; omega)
 have hc : dCells xs ++ dEnc y = dCells (xs ++ [y]) := by simp [dCells]
 rw [hc] at h2
 obtain ⟨a', c', rfl⟩ := own_sliceD h2
 exact ⟨a', c', w', hr, h2, (hb1.mono hbase).grown h3.1 (by simp; omega) (fun k hk => (hown.lt k hk).1), (World.grownBy_alloc w _ _).trans h3.1⟩
/-- A transaction's cell is overwritten. -/
theorem setDn {w : World} {B g n c k t : Nat} {L : List DoneV} (d : DoneV) (v : Value) (hL : L.length = n) (h : w.ownsRow B 73 7 (.slice (some ⟨g, 0, none⟩) n c) n (dCells L)) (hk : k < n) (ht : t < 7) (hd : dEnc d = (dEnc (L[k]?.getD default)).set t v) :
  (w.setCell ⟨g, k * 7 + t, none⟩ v).ownsRow B 73 7 (.slice (some ⟨g, 0, none⟩) n c) n (dCells (L.set k d)) ∧ w.grownBy (w.setCell ⟨g, k * 7 + t, none⟩ v) (some g) := by
 have hkl : k < L.length := by omega
 rcases h.2 with ⟨h1, _⟩ | ⟨g', cap, cur, h1, h2, hb, h4, h5, h6, h7⟩
 ·cases h1
 injection h1 with ha _ hcap
 injection ha with ha
 injection ha with ha
 subst ha; subst hcap
 have hset := K.set1 (i := k * 7 + t) hb v
 refine ⟨⟨by rw [dCells_len, List.length_set, hL], .inr ⟨g, c, _, rfl, h2, hset.1, h4, h5, by simpa using h6, ?_⟩⟩, hset.2⟩
 have e : (L[k]?.getD default) = L[k] := by rw [List.getElem?_eq_getElem hkl]; rfl
 rw [e] at hd
 unfold dCells at h7 ⊢
 rw [← flat_set dEnc 7 (fun _ => rfl) v d L k t hkl ht hd, ← h7]
 simp [List.take_set]
/-- A row of one key. -/
def oneRow (w : World) (a : Option Addr) (c : Nat) (l : List Nat) (k : Nat) : Prop := ∃ B, a = some ⟨B, 0, none⟩ ∧ c = 1 ∧ l = [k] ∧ w.heap[B]? = some (.cells #[.float .f64 k] 64 (0, 0))
theorem oneRow.kept {w w' : World} {a : Option Addr} {c k g : Nat} {l : List Nat} {cur : Array Value} {T : TypeId} (h : oneRow w a c l k) (hg : w.grownBy w' (some g)) (hT : w.heap[g]? = some (.cells cur T (0, 0))) (hne : T ≠ 64) : oneRow w' a c l k := by
 obtain ⟨B, h1, h2, h3, h4⟩ := h
 refine ⟨B, h1, h2, h3, (hg.block B (Array.getElem?_eq_some_iff.1 h4).1 fun e => ?_).trans h4⟩
 have e1 := Option.some.inj e
 subst e1
 rw [h4] at hT
 simp only [Option.some.injEq, Obj.cells.injEq] at hT
 exact hne hT.2.1.symm
theorem oneRow.own {w w' : World} {a : Option Addr} {c k B K n : Nat} {l : List Nat} {T : TypeId} {v : Value} {cs : List Value} (h : oneRow w a c l k) (hr : w.ownsRow B T K v n cs) (hne : T ≠ 64) (hg : w.grownBy w' v.ownBlock) : oneRow w' a c l k := by
 cases hv : v.ownBlock with
 | none =>
  obtain ⟨B, h1, h2, h3, h4⟩ := h
  exact ⟨B, h1, h2, h3, (hg.block B (Array.getElem?_eq_some_iff.1 h4).1 (by rw [hv]; simp)).trans h4⟩
 | some g =>
  obtain ⟨cur, hT⟩ := own_blkT hr hv
  rw [hv] at hg
  exact h.kept hg hT hne
theorem oneRow.below {w w' : World} {a : Option Addr} {c k : Nat} {l : List Nat} (h : oneRow w a c l k) (hb : Below w.heap.size w w') : oneRow w' a c l k := by
 obtain ⟨B, h1, h2, h3, h4⟩ := h
 exact ⟨B, h1, h2, h3, (hb.block B (Array.getElem?_eq_some_iff.1 h4).1).trans h4⟩
/-- A link of the chain as it lies: its reads' key, its writes' key. -/
def linkAt (w : World) (i : Nat) (d : DoneV) (r k : Nat) : Prop := d.num = (i : Int) + 1 ∧ d.s.s0 = 1 ∧ d.s.s1 = (i : Int) + 1 ∧ d.s.s2 = i ∧ (d.s.sa = none ∧ d.s.sc = 0 ∧ d.s.ss = []) ∧ oneRow w d.s.ra d.s.rc d.s.rs r ∧ oneRow w d.s.wa d.s.wc d.s.ws k
def linksAt (w : World) (h : List DoneV) (f : Nat → Nat) : Prop := ∀ i, i < h.length → linkAt w i (h[i]?.getD default) (f i) (f i)
theorem linkAt.map {w w' : World} {i r k : Nat} {d : DoneV} (h : linkAt w i d r k) (H : ∀ a c l k, oneRow w a c l k → oneRow w' a c l k) : linkAt w' i d r k := by
 obtain ⟨h1, h2, h3, h4, h5, h6, h7⟩ := h
 exact ⟨h1, h2, h3, h4, h5, H _ _ _ _ h6, H _ _ _ _ h7⟩
theorem done_any' (n snap : Int) (r k : Nat) (w : World) :
  Calls Tryz.prog 37 #[.int .i64 n, .int .i64 snap, .float .f64 r, .float .f64 k] w fun e w' => ∃ B1 B2, e = .returned (.agg #[.int .i64 n, .int .i64 1, .int .i64 n, .int .i64 snap, .slice (some ⟨B1, 0, none⟩) 1 1, .slice none 0 0, .slice (some ⟨B2, 0, none⟩) 1 1]) ∧ (w'.heap[B1]? = some (.cells #[.float .f64 r] 64 (0, 0)) ∧ w'.heap[B2]? = some (.cells #[.float .f64 k] 64 (0, 0))) ∧ Below w.heap.size w w' := by
 go_enter Tryz.func37, Tryz.ntmps37
 go_wp2
 refine bodyPost_ret (v := .agg #[.int .i64 n, .int .i64 1, .int .i64 n, .int .i64 snap, .slice (some ⟨w.heap.size + 1, 0, none⟩) 1 1, .slice none 0 0, .slice (some ⟨w.heap.size + 1 + 1, 0, none⟩) 1 1]) (by simp [results, Tryz.results37, go_sem]) rfl ?_
 refine ⟨_, _, rfl, ⟨?_, ?_⟩, by exact below_auto⟩
 ·refine (Below.heap_alloc _ _ (w.heap.size + 1) (by simp)).trans ?_
  have h := heap_alloc_new (w.alloc (.cells #[.int .i64 n, .int .i64 1, .int .i64 n, .int .i64 snap, .slice (some ⟨w.heap.size + 1, 0, none⟩) 1 1, .slice none 0 0, .slice (some ⟨w.heap.size + 1 + 1, 0, none⟩) 1 1] 73)) (.cells #[.float .f64 r] 64)
  simpa using h
 ·have h := heap_alloc_new ((w.alloc (.cells #[.int .i64 n, .int .i64 1, .int .i64 n, .int .i64 snap, .slice (some ⟨w.heap.size + 1, 0, none⟩) 1 1, .slice none 0 0, .slice (some ⟨w.heap.size + 1 + 1, 0, none⟩) 1 1] 73)).alloc (.cells #[.float .f64 r] 64)) (.cells #[.float .f64 k] 64)
  simpa using h
theorem run_fadd {a b y : Nat} (h : Ieee.double.add a b = some y) (w : World) : (binOp .add 64 (.float .f64 a) (.float .f64 b)).run Tryz.prog w = .ok (.float .f64 y) w := by
 have e : (binOp .add 64 (.float .f64 a) (.float .f64 b)) = Op.floatArith .add .f64 a b := rfl
 have e2 : FloatKind.f64.format = Ieee.double := rfl
 rw [e]
 unfold Op.floatArith
 simp only [e2, h]
 rfl
theorem and63 (n : Int) : ∃ k : Nat, bits BinOp.and IntKind.i64 n 63 = (k : Int) ∧ k < 64 := by
 have hx : ((BitVec.ofInt 64 n &&& BitVec.ofInt 64 63).toNat) < 64 := by
  rw [BitVec.toNat_and, show (BitVec.ofInt 64 63).toNat = 63 from rfl]
  exact Nat.lt_succ_of_le Nat.and_le_right
 refine ⟨(BitVec.ofInt 64 n &&& BitVec.ofInt 64 63).toNat, ?_, hx⟩
 show IntKind.i64.wrap ((BitVec.ofInt 64 n &&& BitVec.ofInt 64 63).toNat : Int) = _
 generalize (BitVec.ofInt 64 n &&& BitVec.ofInt 64 63).toNat = k at *
 simp [IntKind.wrap, IntKind.bits, IntKind.signed]
 omega
theorem links_hat {w : World} {B n c y : Nat} {a : Option Addr} {h : List DoneV} (hn : h.length = n) (hr : w.ownsRow B 73 7 (.slice a n c) n (dCells h)) (hl : linksAt w h fun _ => y) (hy : y < 2 ^ 64) (hm : n ≤ 1000) : HAt w a h ∧ chainOk y h ∧ n ≤ c := by
 have hsub : ∀ i, i < h.length → (h[i]?.getD default).s.At w := fun i hi => by
  obtain ⟨_, _, _, _, ⟨q1, q2, q3⟩, ⟨B1, p1, p2, p3, p4⟩, ⟨B2, r1, r2, r3, r4⟩⟩ := hl i hi
  refine ⟨?_, ?_, ?_⟩
  ·rw [p1, p3]; exact one_fat hy (Array.getElem?_eq_some_iff.1 p4).1 (by rw [cell_of_row w B1 0 _ _ (0, 0) p4]; rfl)
  ·rw [q1, q3]; exact nil_sat w
  ·rw [r1, r3]; exact one_fat hy (Array.getElem?_eq_some_iff.1 r4).1 (by rw [cell_of_row w B2 0 _ _ (0, 0) r4]; rfl)
 refine ⟨⟨?_, hsub, by omega⟩, fun i d hd => ?_, ?_⟩
 ·rcases hr.2 with ⟨_, h2⟩ | ⟨g, cap, cur, h1, _⟩
  ·exact .inl (List.eq_nil_of_length_eq_zero (by omega))
  ·injection h1 with h1 _ _
   subst h1
   refine .inr ⟨g, 0, rfl, (hr.lt g rfl).2, fun i hi t v hv => ?_⟩
   have ht : t < 7 := (List.getElem?_eq_some_iff.1 hv).1
   have := hr.cells (g := g) rfl (i * 7 + t) v (by
    unfold dCells
    rw [flat_at dEnc 7 (fun _ => rfl) h i t hi ht]
    rw [List.getElem?_eq_getElem hi] at hv
    exact hv)
   rw [K.addr0] at this
   rw [Nat.zero_add]; exact this
 ·have hi := (List.getElem?_eq_some_iff.1 hd).1
  obtain ⟨h1, h2, h3, h4, ⟨_, _, q3⟩, ⟨B1, p1, p2, p3, p4⟩, ⟨B2, r1, r2, r3, r4⟩⟩ := hl i hi
  rw [hd] at h1 h2 h3 h4 q3 p3 r3
  exact ⟨h1, h2, h3, h4, p3, q3, r3⟩
 ·rcases hr.2 with ⟨h1, h2⟩ | ⟨g, cap, cur, h1, _, _, _, h5, _⟩
  ·omega
  ·injection h1 with _ _ h3
   omega
theorem half_all : ∀ q, q < 64 → (((q * (q - 1) / 2 : Nat) : Int) == wrap64 ((wrap64 ((q : Int) * ((q : Int) - 1))).tdiv 2)) = true := by decide +kernel
theorem half_ok {E q : Nat} (h : 2 * E = q * (q - 1)) (hq : q < 64) : ((E : Int) == wrap64 ((wrap64 ((q : Int) * ((q : Int) - 1))).tdiv 2)) = true := by
 have e : E = q * (q - 1) / 2 := by omega
 rw [e]
 exact half_all q hq
set_option maxHeartbeats 4000000 in
set_option maxRecDepth 100000 in
theorem serialChains_walk (nn : Int) (key : Nat) (w : World) (_ : -9223372036854775808 ≤ nn ∧ nn ≤ 9223372036854775807) (hkey : key < 2 ^ 64) :
  Calls Tryz.prog 10 #[.int .i64 nn, .float .f64 key] w (Ret (.bool true) w) := by
 obtain ⟨n, hnn, hn63⟩ := and63 nn
 have hcase : isNaN key = true ∨ isNaN key = false := by cases isNaN key <;> simp
 go_enter Tryz.func10, Tryz.ntmps10
 go_upto_region 4 with (go_at_call 25; (with_reducible refine (alive12_any _).mono ?_); rintro e w1 ⟨rfl, hb1⟩; obtain ⟨hc1, hf1⟩ := bcell hb1; (try simp only [World.heap_drewN, World.cell?_drewN, World.frozen?_drewN] at hc1 hf1); have hz1 := hb1.size; (try simp at hz1); (try have hy1_0 : w.heap.size < w1.heap.size := by omega); (try have hy1_1 : w.heap.size + 1 < w1.heap.size := by omega); (try have hx1_0 : w.heap.size ≤ w1.heap.size := by omega); (try have hx1_1 : w.heap.size + 1 ≤ w1.heap.size := by omega))
 try rw [hnn]
 clear hnn hc1 hf1
 have hsz1 := hb1.size
 go_upto_if 17 with fail
 go_cut [1] from 17 to 18 (fun t1 wc => ∃ kk, t1 = .float .f64 kk ∧ Hid (isNaN kk = false) ∧ kk < 2 ^ 64 ∧ wc = w1)
 case first =>
  rcases hcase with hq | hq
  ·rw [hq]
   go_wp2_with fail
   go_meet
   case rel => exact ⟨_, rfl, hid (by decide), by omega, rfl⟩
  ·rw [hq]
   go_wp2_with fail
   go_meet
   case rel => exact ⟨_, rfl, hid hq, hkey, rfl⟩
 case rest =>
  obtain ⟨kk, rfl, HK, hK64, hwc⟩ := hcut
  rw [hwc]
  clear hwc hkey hcase
  have hO0 : (w1.alloc (.cells #[] 73)).ownsRow w1.heap.size 73 7 (.slice (some ⟨w1.heap.size, 0, none⟩) 0 0) 0 (dCells []) := World.ownsRow_made w1 #[] 0 (Nat.le_refl _) (by unfold maxLen; omega) rfl
  have HO0 := hid hO0
  clear hO0
  go_upto_region 8 with fail
  go_loopw [5, 6] (fun t5 t6 wr => ∃ (i : Nat) (h : List DoneV) (ao : Option Addr) (co : Nat), t6 = .int .i64 ((i : Int) + 1) ∧ t5 = .slice ao i co ∧ i ≤ n ∧ Hid (h.length = i) ∧ Hid (wr.ownsRow w1.heap.size 73 7 (.slice ao i co) i (dCells h)) ∧ Hid (linksAt wr h fun _ => kk) ∧ Below w1.heap.size w1 wr) (fun _ t6 _ => n + 1 - (intOf t6).toNat)
  case atStart => exact ⟨0, [], _, _, rfl, rfl, Nat.zero_le _, hid rfl, HO0, hid (fun i hi => by simp at hi), by exact below_auto⟩
  case round =>
   obtain ⟨i, h, ao, co, rfl, rfl, hi, HL, HOW, HLK, hbw⟩ := hrel
   clear HO0
   by_cases hin : i < n
   ·have hin' : (i : Int) + 1 ≤ (n : Int) := by omega
    have hi1 : (i : Int) + 1 - 1 = (i : Int) := by omega
    have HDN := hid (done_any' ((i : Int) + 1) i kk kk wr)
    have hwr := hbw.size
    go_wp2_with fail
    refine HDN.out.mono ?_
    rintro e w2 ⟨B1, B2, rfl, ⟨q1, q2⟩, hb2⟩
    have hO1 := own_keep HOW.out fun q cur _ hq => hb2.block q (Array.getElem?_eq_some_iff.1 hq).1
    have hb02 := hbw.trans (hb2.mono hwr)
    obtain ⟨a3, c3, w3, hr3, hO3, hb3, hg3⟩ := appD (oneD ((i : Int) + 1) i kk kk B1 B2) HL.out hO1 hb02.size (by omega)
    have HO3 := hid hO3
    have HB3 := hid (hb02.trans hb3)
    have HL3 : Hid ((h ++ [oneD ((i : Int) + 1) i kk kk B1 B2]).length = i + 1) := hid (by rw [List.length_append, HL.out]; rfl)
    have keep : ∀ a c l k, oneRow w2 a c l k → oneRow w3 a c l k := fun a c l k ho => ho.own hO1 (by decide) hg3
    have HLK3 : Hid (linksAt w3 (h ++ [oneD ((i : Int) + 1) i kk kk B1 B2]) fun _ => kk) := hid fun j hj => by
     by_cases hjl : j < h.length
     ·rw [List.getElem?_append_left hjl]
      exact ((HLK.out j hjl).map fun a c l k ho => keep a c l k (ho.below hb2))
     ·have hji : j = i := by
       have h1 := HL3.out
       have h2 := HL.out
       omega
      subst hji
      rw [List.getElem?_append_right (by rw [HL.out]; exact Nat.le_refl _), HL.out, Nat.sub_self]
      exact ⟨rfl, rfl, rfl, rfl, ⟨rfl, rfl, rfl⟩, keep _ _ _ _ ⟨B1, rfl, rfl, rfl, q1⟩, keep _ _ _ _ ⟨B2, rfl, rfl, rfl, q2⟩⟩
    have hr3' : ∀ ty, (Builtin.append_ #[67, 67] ty #[.slice ao i co, .slice (some ⟨w2.heap.size, 0, none⟩) 1 1]).run Tryz.prog (w2.alloc (.cells #[.int .i64 ((i : Int) + 1), .int .i64 1, .int .i64 ((i : Int) + 1), .int .i64 i, .slice (some ⟨B1, 0, none⟩) 1 1, .slice none 0 0, .slice (some ⟨B2, 0, none⟩) 1 1] 73)) = .ok (.slice a3 (i + 1) c3) w3 := hr3
    clear HDN hO1 hb02 hO3 hb3 hg3 keep q1 q2 hb2 hr3 HOW HLK
    go_wp2_with (at_builtin; refine Lib.wpList_append_run _ rfl _ _ _ _ rfl _ _ rfl rfl _ _ (hr3' _) ?_)
    go_roundw
    case rel => exact ⟨i + 1, _, a3, c3, by go_num, rfl, by omega, HL3, HO3, HLK3, HB3.out⟩
    case measure => simp [intOf]; omega
   ·obtain rfl : i = n := by omega
    have hge : ¬ (i : Int) + 1 ≤ (i : Int) := by omega
    obtain ⟨wo, rfl⟩ : ∃ x, x = wr := ⟨_, rfl⟩
    obtain ⟨y, hadd, hy64, hyn⟩ := add_zero_num HK.out
    have HYN := hid hyn
    have hfa := run_fadd hadd
    clear hyn hadd
    go_upto_region 12 with fail
    go_loopw [35] (fun t35 wx => ∃ (j : Nat) (h' : List DoneV), t35 = .int .i64 (j : Nat) ∧ j ≤ i ∧ Hid (h'.length = i) ∧ Hid (wx.ownsRow w1.heap.size 73 7 (.slice ao i co) i (dCells h')) ∧ Hid (linksAt wx h' fun p => if p < j then y else kk) ∧ Below w1.heap.size w1 wx) (fun t35 _ => i - (intOf t35).toNat)
    case atStart => exact ⟨0, h, rfl, Nat.zero_le _, HL, HOW, hid (by have := HLK.out; simpa using this), hbw⟩
    case round =>
     obtain ⟨j, h', rfl, hj, HL2, HOW2, HLK2, hbj⟩ := hrel
     clear HL HOW HLK
     by_cases hji : j < i
     ·have hji' : (j : Int) < (i : Int) := by omega
      have hjl : j < h'.length := by rw [HL2.out]; exact hji
      have hrow := HOW2.out
      rcases hrow.2 with ⟨_, h2⟩ | ⟨g, cap, cur, h1, h2, hbk, -⟩
      ·omega
      injection h1 with ha2 _ hcap2
      subst ha2; subst hcap2
      have hgl := hrow.lt g rfl
      have hzj := hbj.size
      obtain ⟨d, hd⟩ : ∃ d, d = h'[j]?.getD default := ⟨_, rfl⟩
      have hdj : h'[j]? = some d := by rw [hd, List.getElem?_eq_getElem hjl]; rfl
      have q4 := hrow.cells (g := g) rfl (j * 7 + 4) (.slice d.s.ra d.s.rs.length d.s.rc) (by unfold dCells; rw [flat_at dEnc 7 (fun _ => rfl) h' j 4 hjl (by omega), ← Option.some.inj ((List.getElem?_eq_getElem hjl).symm.trans hdj)]; rfl)
      have q6 := hrow.cells (g := g) rfl (j * 7 + 6) (.slice d.s.wa d.s.ws.length d.s.wc) (by unfold dCells; rw [flat_at dEnc 7 (fun _ => rfl) h' j 6 hjl (by omega), ← Option.some.inj ((List.getElem?_eq_getElem hjl).symm.trans hdj)]; rfl)
      rw [K.addr0] at q4 q6
      have f4 : wr.frozen? ⟨g, j * 7 + 4, none⟩ = false := by rw [World.frozen?]; simp [hbk]
      have f6 : wr.frozen? ⟨g, j * 7 + 6, none⟩ = false := by rw [World.frozen?]; simp [hbk]
      obtain ⟨hg1, hg2⟩ := hgl
      go_upto_region 16 with fail
      rw [show j * 7 + 1 + 3 = j * 7 + 4 by omega, show j * 7 + 1 + 5 = j * 7 + 6 by omega]
      obtain ⟨d1, hd1⟩ : ∃ d1 : DoneV, d1 = { d with s := { d.s with ra := some ⟨wr.heap.size, 0, none⟩, rc := 1, rs := [y] } } := ⟨_, rfl⟩
      obtain ⟨d2, hd2⟩ : ∃ d2 : DoneV, d2 = { d with s := { d.s with ra := some ⟨wr.heap.size, 0, none⟩, rc := 1, rs := [y], wa := some ⟨wr.heap.size + 1, 0, none⟩, wc := 1, ws := [y] } } := ⟨_, rfl⟩
      obtain ⟨s1, g1⟩ := setDn (k := j) (t := 4) d1 (.slice (some ⟨wr.heap.size, 0, none⟩) 1 1) HL2.out hrow hji (by omega) (by rw [← hd, hd1]; rfl)
      obtain ⟨s2, g2⟩ := setDn (k := j) (t := 6) (L := h'.set j d1) d2 (.slice (some ⟨wr.heap.size + 1, 0, none⟩) 1 1) (by rw [List.length_set]; exact HL2.out) s1 hji (by omega) (by rw [List.getElem?_set_self hjl, hd2, hd1]; rfl)
      have gW := g1.trans g2
      have hs2 : ((wr.setCell ⟨g, j * 7 + 4, none⟩ (.slice (some ⟨wr.heap.size, 0, none⟩) 1 1)).setCell ⟨g, j * 7 + 6, none⟩ (.slice (some ⟨wr.heap.size + 1, 0, none⟩) 1 1)).heap.size = wr.heap.size := by simp [go_sem]
      generalize (wr.setCell ⟨g, j * 7 + 4, none⟩ (.slice (some ⟨wr.heap.size, 0, none⟩) 1 1)).setCell ⟨g, j * 7 + 6, none⟩ (.slice (some ⟨wr.heap.size + 1, 0, none⟩) 1 1) = W2 at *
      have hb24 : Below W2.heap.size W2 ((W2.alloc (.cells #[.float .f64 y] 64)).alloc (.cells #[.float .f64 y] 64)) := by exact below_auto
      have b1 : ((W2.alloc (.cells #[.float .f64 y] 64)).alloc (.cells #[.float .f64 y] 64)).heap[wr.heap.size]? = some (.cells #[.float .f64 y] 64 (0, 0)) := by
       rw [← hs2]
       exact (Below.heap_alloc _ _ W2.heap.size (by simp)).trans (heap_alloc_new W2 _)
      have b2 : ((W2.alloc (.cells #[.float .f64 y] 64)).alloc (.cells #[.float .f64 y] 64)).heap[wr.heap.size + 1]? = some (.cells #[.float .f64 y] 64 (0, 0)) := by
       have h := heap_alloc_new (W2.alloc (.cells #[.float .f64 y] 64)) (.cells #[.float .f64 y] 64)
       rw [← hs2]
       simpa using h
      have HO2 := hid (own_keep s2 fun q cur _ hq => hb24.block q (Array.getElem?_eq_some_iff.1 hq).1)
      have hbW := (hbj.grown gW hzj (fun k hk => by cases hk; exact hg1))
      have HB2 := hid (hbW.trans (hb24.mono (by rw [hs2]; exact hzj)))
      have HLK3 : Hid (linksAt ((W2.alloc (.cells #[.float .f64 y] 64)).alloc (.cells #[.float .f64 y] 64)) ((h'.set j d1).set j d2) fun p => if p < j + 1 then y else kk) := hid fun p hp => by
       by_cases hpj : p = j
       ·subst hpj
        rw [List.getElem?_set_self (by rw [List.length_set]; exact hjl)]
        have hl := HLK2.out p hjl
        rw [← hd] at hl
        simp only [Nat.lt_succ_self, if_true, Option.getD_some]
        obtain ⟨l1, l2, l3, l4, l5, -, -⟩ := hl
        rw [hd2]
        exact ⟨l1, l2, l3, l4, l5, ⟨_, rfl, rfl, rfl, b1⟩, ⟨_, rfl, rfl, rfl, b2⟩⟩
       ·rw [List.getElem?_set_ne (Ne.symm hpj), List.getElem?_set_ne (Ne.symm hpj)]
        rw [List.length_set, List.length_set] at hp
        have hl := HLK2.out p hp
        have e : (if p < j + 1 then y else kk) = if p < j then y else kk := by
         by_cases h1 : p < j
         ·rw [if_pos h1, if_pos (by omega)]
         ·rw [if_neg h1, if_neg (by omega)]
        simp only [e]
        exact hl.map fun a c l k ho => (ho.kept gW hbk (by decide)).below hb24
      have HL3 : Hid (((h'.set j d1).set j d2).length = i) := hid (by rw [List.length_set, List.length_set]; exact HL2.out)
      clear s1 s2 g1 g2 gW hb24 b1 b2 hbW hs2 q4 q6 f4 f6 hbk hrow
      go_wp2_with fail
      go_roundw
      case rel => exact ⟨j + 1, _, by go_num, by omega, HL3, HO2, HLK3, HB2.out⟩
      case measure => simp [intOf]; omega
     ·obtain rfl : j = i := by omega
      have hge2 : ¬ (j : Int) < (j : Int) := by omega
      have hlk : linksAt wr h' fun _ => y := fun p hp => by
       have h1 : linkAt wr p (h'[p]?.getD default) (if p < j then y else kk) (if p < j then y else kk) := HLK2.out p hp
       rw [if_pos (by have := HL2.out; omega)] at h1
       exact h1
      obtain ⟨hh, hch, hcap⟩ := links_hat HL2.out HOW2.out hlk hy64 (by omega)
      have HH := hid hh; have HCH := hid hch
      have hzj := hbj.size
      clear hlk hh hch HLK2 HOW2
      have HOR := hid (order_any ao co j h' wr HL2.out hcap HH.out)
      have HRT := hid fun v (hv : rightV h' = v) W (hb : Below wr.heap.size wr W) => right_any ao co j h' v W HL2.out hcap (HH.out.below hb) hv
      have HED := hid fun W (hb : Below wr.heap.size wr W) => edges_any ao co j h' W HL2.out hcap (HH.out.below hb)
      obtain ⟨wo2, rfl⟩ : ∃ x, x = wr := ⟨_, rfl⟩
      have hb02 := hb1.trans (hbj.mono hsz1)
      have hz02 := hb02.size
      cases hrv : rightV h'
      ·have ho : ordV h' = ([], false) := by unfold ordV; rw [if_neg (by rw [hrv]; simp)]
       have hjp : 0 < j := by
        rcases Nat.eq_zero_or_pos j with h0 | h0
        ·have h1 : h' = [] := List.eq_nil_of_length_eq_zero (by rw [HL2.out]; exact h0)
         rw [h1, right_nil] at hrv
         cases hrv
        ·exact h0
       rw [ho] at HOR
       have hjp' : (0 : Int) < (j : Int) := by omega
       have HR := hid (HRT.out false hrv)
       have HJP := hid hjp
       clear ho hrv hjp HRT HED
       go_wp2_with fail
       refine HOR.out.mono ?_
       rintro e w3 ⟨a3, c3, rfl, -, hb3⟩
       simp only [List.length_nil]
       go_wp2_with fail
       refine (HR.out w3 hb3).mono ?_
       rintro e w4 ⟨rfl, hb4⟩
       have hfin := hb02.trans ((hb3.trans (hb4.mono hb3.size)).mono hz02)
       go_wp2_with fail
       go_ret
       exact ⟨ret_bool (decide_eq_true HJP.out), hfin⟩
      ·have hs := chain_sort HYN.out HCH.out hrv
       rw [HL2.out] at hs
       have ho : ordV h' = (upN j, true) := by unfold ordV; rw [hs, if_pos ⟨hrv, rfl⟩]
       have hrd := sort_reads hrv (by rw [hs])
       rw [hs] at hrd
       have hE := chain_edges HYN.out HCH.out hrv
       rw [HL2.out] at hE
       have HRD := hid fun a c W (hb : Below wo2.heap.size wo2 W) (hN : NAt W a (upN j)) => reads_any ao a co c j j h' (upN j) true W HL2.out hcap (HH.out.below hb) (upN_len j) (by omega) hN hrd
       have HUP := hid (show ∀ q, q < j → (upN j)[q]?.getD 0 = (q : Int) + 1 from fun q hq => by unfold upN; rw [List.getElem?_map, List.getElem?_range hq]; rfl)
       have HUL := hid (upN_len j)
       rw [ho] at HOR
       have HE := hid hE
       clear hs ho hrd hrv HRT hE
       generalize upN j = o at *
       go_wp2_with fail
       refine HOR.out.mono ?_
       rintro e w3 ⟨a3, c3, rfl, hO3, hb3⟩
       have HN3 := hid (own_nat rfl hO3 (by have := HUL.out; simp only; unfold maxLen; omega))
       have hw3 := hb3.size
       simp only
       rw [HUL.out]
       clear hO3 HOR
       go_upto_region 21 with fail
       go_loopw [77] (fun t77 wx => ∃ q : Nat, t77 = .int .i64 (q : Nat) ∧ q ≤ j ∧ Below w3.heap.size w3 wx) (fun t77 _ => j - (intOf t77).toNat)
       case atStart => exact ⟨0, rfl, Nat.zero_le _, Below.refl _ _⟩
       case round =>
        obtain ⟨q, rfl, hq, hbq⟩ := hrel
        by_cases hqj : q < j
        ·have hqj' : (q : Int) < (j : Int) := by omega
         have hqo : q < o.length := by rw [HUL.out]; exact hqj
         rcases (HN3.out.below hbq).row with h1 | ⟨b, oo, hao, hbl, hc⟩
         ·rw [h1] at hqo; simp at hqo
         have hc := hc q hqo
         rw [HUP.out q hqj] at hc
         subst hao
         clear hqo
         go_wp2_with fail
         go_roundw
         case rel => exact ⟨q + 1, by go_num, by omega, hbq⟩
         case measure => simp [intOf]; omega
        ·obtain rfl : q = j := by omega
         have hge3 : ¬ (q : Int) < (q : Int) := by omega
         have hb3q := hb3.trans (hbq.mono hw3)
         have HR := hid (HRD.out a3 c3 wr hb3q (HN3.out.below hbq))
         have hz3q := hb3q.size
         clear HRD HUP HN3
         go_wp2_with fail
         refine HR.out.mono ?_
         rintro e w4 ⟨rfl, hb4⟩
         have hb34 := hb3q.trans (hb4.mono hz3q)
         have HEE := hid (HED.out w4 hb34)
         clear HED HR
         go_wp2_with fail
         refine HEE.out.mono ?_
         rintro e w5 ⟨a5, c5, rfl, -, hb5⟩
         have hE := HE.out
         generalize (edgesV h').length = E at *
         have hfin := hb02.trans ((hb34.trans (hb5.mono hb34.size)).mono hz02)
         have HH2 := hid (half_ok hE hn63)
         clear HE HEE hE
         go_wp2_with fail
         go_ret
         exact ⟨ret_bool HH2.out, hfin⟩
end Go.Proofs.YtekmadgacepdfaaGreat.T
