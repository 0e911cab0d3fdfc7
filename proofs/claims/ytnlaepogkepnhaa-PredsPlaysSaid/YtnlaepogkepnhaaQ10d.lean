/- The document's table of layer 10: New, Drop; its rows of items. -/
import Derived.Test.YtnlaepogkepnhaaQH
import Derived.OneCell
namespace Go.Proofs.Ytnlaepogkepnhaa.Q
set_option linter.unusedVariables false
open Go.RowKit Fl

def ItV.enc3 (x : ItV) : List Value := [.int .u64 (kcode x.k.lo), .int .u64 (kcode x.k.hi), .int .i64 x.n]
theorem ItV.enc3_len (x : ItV) : x.enc3.length = 3 := rfl
theorem ItV.enc3_one (x : ItV) : ∀ u ∈ x.enc3, u.oneCell' = true := by intro u hu; simp [ItV.enc3] at hu; rcases hu with rfl | rfl | rfl <;> rfl
def mCells (ms : List ItV) : List Value := ms.flatMap ItV.enc3
theorem mCells_len (ms : List ItV) : (mCells ms).length = ms.length * 3 := flat_len ItV.enc3_len ms

theorem refBetween_any (n : Int) (w : World) :
    Calls Try.prog 55 #[.int .i64 n, .int .i64 0, .int .i64 64] w (Ret (.int .i64 (mostI n)) w) := by
  by_cases h1 : n < 0
  · rw [show mostI n = 0 by unfold mostI; omega]
    go_enter Try.func55, Try.ntmps55
    go_wp2
    go_ret
    exact ⟨rfl, by (repeat (first | with_reducible exact Below.refl _ _ | ((with_reducible refine Below.alloc1 ?_ ?_ _); (· first | omega | (simp; done) | (simp; omega))) | (with_reducible refine Below.drew ?_) | (with_reducible refine below_drewN' ?_ _) | ((with_reducible refine Below.setCell1 ?_ ?_ _); (· first | omega | (simp; done) | (simp; omega))) | ((with_reducible refine Below.after (by assumption) ?_ ?_); (· first | omega | (simp; done) | (simp; omega)))))⟩
  · have h1' : 0 ≤ n := by omega
    by_cases h2 : 64 < n
    · rw [show mostI n = 64 by unfold mostI; omega]
      clear h1
      go_enter Try.func55, Try.ntmps55
      go_wp2
      go_ret
      exact ⟨rfl, by (repeat (first | with_reducible exact Below.refl _ _ | ((with_reducible refine Below.alloc1 ?_ ?_ _); (· first | omega | (simp; done) | (simp; omega))) | (with_reducible refine Below.drew ?_) | (with_reducible refine below_drewN' ?_ _) | ((with_reducible refine Below.setCell1 ?_ ?_ _); (· first | omega | (simp; done) | (simp; omega))) | ((with_reducible refine Below.after (by assumption) ?_ ?_); (· first | omega | (simp; done) | (simp; omega)))))⟩
    · have h2' : n ≤ 64 := by omega
      rw [show mostI n = n by unfold mostI; omega]
      clear h1 h2
      go_enter Try.func55, Try.ntmps55
      go_wp2
      go_ret
      exact ⟨rfl, by (repeat (first | with_reducible exact Below.refl _ _ | ((with_reducible refine Below.alloc1 ?_ ?_ _); (· first | omega | (simp; done) | (simp; omega))) | (with_reducible refine Below.drew ?_) | (with_reducible refine below_drewN' ?_ _) | ((with_reducible refine Below.setCell1 ?_ ?_ _); (· first | omega | (simp; done) | (simp; omega))) | ((with_reducible refine Below.after (by assumption) ?_ ?_); (· first | omega | (simp; done) | (simp; omega)))))⟩

theorem refNew10_any (n : Int) (w : World) :
    Calls Try.prog 40 #[.int .i64 n] w (Ret (.agg #[.int .i64 (mostI n), .slice none 0 0]) w) := by
  have H := fun W => refBetween_any n W
  generalize mostI n = m at *
  go_enter Try.func40, Try.ntmps40
  go_wp2_with (go_at_call 55; (with_reducible refine (H _).mono ?_); rintro e w1 ⟨rfl, hb1⟩; obtain ⟨hc1, hf1⟩ := bcell hb1; (try simp only [World.heap_drewN, World.cell?_drewN, World.frozen?_drewN] at hc1 hf1); have hz1 := hb1.size; (try simp at hz1); (try have hy1_0 : w.heap.size < w1.heap.size := by omega); (try have hy1_1 : w.heap.size + 1 < w1.heap.size := by omega); (try have hy1_2 : w.heap.size + 2 < w1.heap.size := by omega); (try have hy1_3 : w.heap.size + 3 < w1.heap.size := by omega); (try have hx1_0 : w.heap.size ≤ w1.heap.size := by omega); (try have hx1_1 : w.heap.size + 1 ≤ w1.heap.size := by omega); (try have hx1_2 : w.heap.size + 2 ≤ w1.heap.size := by omega))
  exact bodyPost_ret (v := .agg #[.int .i64 m, .slice none 0 0]) (by simp [results, Try.results40, go_sem, *]) rfl ⟨rfl, by (repeat (first | with_reducible exact Below.refl _ _ | ((with_reducible refine Below.alloc1 ?_ ?_ _); (· first | omega | (simp; done) | (simp; omega))) | (with_reducible refine Below.drew ?_) | (with_reducible refine below_drewN' ?_ _) | ((with_reducible refine Below.setCell1 ?_ ?_ _); (· first | omega | (simp; done) | (simp; omega))) | ((with_reducible refine Below.after (by assumption) ?_ ?_); (· first | omega | (simp; done) | (simp; omega)))))⟩

/-- A row of the document's items lies at a slice's address. -/
structure MAt (w : World) (a : Option Addr) (ms : List ItV) : Prop where
  row : 0 < ms.length → ∃ g, a = some ⟨g, 0, none⟩ ∧ g < w.heap.size ∧ ∀ i, i < ms.length → w.cell? ⟨g, i * 3, none⟩ = some (.int .u64 (kcode (ms[i]?.getD default).k.lo)) ∧ w.cell? ⟨g, i * 3 + 1, none⟩ = some (.int .u64 (kcode (ms[i]?.getD default).k.hi)) ∧ w.cell? ⟨g, i * 3 + 2, none⟩ = some (.int .i64 (ms[i]?.getD default).n)
  len : ms.length ≤ 64
theorem MAt.below {w w' : World} {a : Option Addr} {ms : List ItV} (h : MAt w a ms) (hb : Below w.heap.size w w') : MAt w' a ms := by
  refine ⟨fun h0 => ?_, h.len⟩
  obtain ⟨g, e, hg, hc⟩ := h.row h0
  exact ⟨g, e, Nat.lt_of_lt_of_le hg hb.size, fun i hi => ⟨(hb.cell (p := ⟨g, _, none⟩) hg).trans (hc i hi).1, (hb.cell (p := ⟨g, _, none⟩) hg).trans (hc i hi).2.1, (hb.cell (p := ⟨g, _, none⟩) hg).trans (hc i hi).2.2⟩⟩

theorem mItemInfo : (Try.prog.info? 90).map (fun i => (i.zero, i.size, i.bytes)) = some (some (.agg #[.int .u64 0, .int .u64 0, .int .i64 0]), 3, 24) := by kernel_rfl
theorem own_sliceM {w : World} {B : Nat} {v : Value} {its : List ItV} (h : w.ownsRow B 90 3 v its.length (mCells its)) : ∃ va vc, v = .slice va its.length vc := by
  rcases h.2 with ⟨rfl, h0⟩ | ⟨g, cap, cur, rfl, _⟩
  · have := mCells_len its
    rw [h0] at this; simp at this
    exact ⟨none, 0, by rw [show its.length = 0 by omega]⟩
  · exact ⟨_, _, rfl⟩
theorem mat_own {w : World} {B c : Nat} {a : Option Addr} {ms : List ItV} (h : w.ownsRow B 90 3 (.slice a ms.length c) ms.length (mCells ms)) (hl : ms.length ≤ 64) : MAt w a ms := by
  refine ⟨fun h0 => ?_, hl⟩
  rcases h.2 with ⟨hv, h1⟩ | ⟨g, cap, cur, hv, hbg, hg, hnc, hcm, hcs, htake⟩
  · have := mCells_len ms
    rw [h1] at this; simp at this; omega
  · obtain ⟨rfl, rfl⟩ : a = some ⟨g, 0, none⟩ ∧ c = cap := by cases hv; exact ⟨rfl, rfl⟩
    refine ⟨g, rfl, (Array.getElem?_eq_some_iff.1 hg).1, fun i hi => ⟨?_, ?_, ?_⟩⟩
    · rw [h.cellAt (i * 3) (by omega)]
      exact (flat_get ItV.enc3_len (it_some hi) (j := 0) (by omega)).trans rfl
    · rw [h.cellAt (i * 3 + 1) (by omega)]
      exact (flat_get ItV.enc3_len (it_some hi) (j := 1) (by omega)).trans rfl
    · rw [h.cellAt (i * 3 + 2) (by omega)]
      exact (flat_get ItV.enc3_len (it_some hi) (j := 2) (by omega)).trans rfl

theorem own_le {w : World} {base base' size n : Nat} {e : TypeId} {v : Value} {xs : List Value} (h : w.ownsRow base e size v n xs) (hb : base' ≤ base) : w.ownsRow base' e size v n xs :=
  ⟨h.1, h.2.imp id fun ⟨g, cap, cur, h1, h2, h3⟩ => ⟨g, cap, cur, h1, Nat.le_trans hb h2, h3⟩⟩
/-- An item is added. -/
theorem app1 {W0 w : World} {base : Nat} {a : Option Addr} {c : Nat} {ms : List ItV} (x : ItV) (hb : Below base W0 w) (hown : w.ownsRow base 90 3 (.slice a ms.length c) ms.length (mCells ms)) (hbase : base ≤ w.heap.size) (hl : ms.length ≤ 64) :
    ∃ a' c' w', (∀ ty, (Builtin.append_ #[77, 77] ty #[.slice a ms.length c, .slice (some ⟨w.heap.size, 0, none⟩) 1 1]).run Try.prog (w.alloc (.cells #[.int .u64 (kcode x.k.lo), .int .u64 (kcode x.k.hi), .int .i64 x.n] 90)) = .ok (.slice a' (ms.length + 1) c') w') ∧
      w'.ownsRow base 90 3 (.slice a' (ms.length + 1) c') (ms.length + 1) (mCells (ms ++ [x])) ∧ Below base W0 w' := by
  obtain ⟨i0, hi0, hz0, hzs, hzb⟩ := info_parts mItemInfo
  have hb1 : Below w.heap.size w (w.alloc (.cells #[.int .u64 (kcode x.k.lo), .int .u64 (kcode x.k.hi), .int .i64 x.n] 90)) := by (repeat (first | with_reducible exact Below.refl _ _ | ((with_reducible refine Below.alloc1 ?_ ?_ _); (· first | omega | (simp; done) | (simp; omega))) | (with_reducible refine Below.drew ?_) | (with_reducible refine below_drewN' ?_ _) | ((with_reducible refine Below.setCell1 ?_ ?_ _); (· first | omega | (simp; done) | (simp; omega))) | ((with_reducible refine Below.after (by assumption) ?_ ?_); (· first | omega | (simp; done) | (simp; omega)))))
  have hown1 := hown.kept (grown_of_below hb1) (by cases (Value.slice a ms.length c).ownBlock <;> simp)
  obtain ⟨v', w', hr, h2, h3⟩ := run_append_own2 (P := Try.prog) (w.alloc (.cells #[.int .u64 (kcode x.k.lo), .int .u64 (kcode x.k.hi), .int .i64 x.n] 90)) base 77 90 i0 _ 3 24 Try.underlying77 hi0 hz0 hzs hzb rfl (by omega) _ _ _ hown1 ⟨w.heap.size, 0, none⟩ 1 1 x.enc3 rfl
    (fun j u hj => by
      have hrow : (w.alloc (.cells #[.int .u64 (kcode x.k.lo), .int .u64 (kcode x.k.hi), .int .i64 x.n] 90)).heap[w.heap.size]? = some (.cells #[.int .u64 (kcode x.k.lo), .int .u64 (kcode x.k.hi), .int .i64 x.n] 90 (0, 0)) := heap_alloc_new w _
      rw [addr0, cell_row hrow]
      rw [← hj]; simp [ItV.enc3]) (ItV.enc3_one x) (by omega) (by unfold maxLen; omega) (by omega) (by simp; omega)
  have hc : mCells ms ++ x.enc3 = mCells (ms ++ [x]) := by simp [mCells]
  rw [hc] at h2
  have hlen : (ms ++ [x]).length = ms.length + 1 := by simp
  rw [← hlen] at h2
  obtain ⟨a', c', rfl⟩ := own_sliceM h2
  rw [hlen] at h2 hr
  exact ⟨a', c', w', hr, h2, ((hb.trans (hb1.mono hbase)).grown h3.1 (by simp; omega) (fun k hk => (hown.lt k hk).1))⟩

/-- What the document's functions hand back: a table with a row of its own. -/
def MRet (w : World) (most : Int) (ms : List ItV) (e : Ending) (w' : World) : Prop :=
  ∃ a c, e = .returned (.agg #[.int .i64 most, .slice a ms.length c]) ∧ w'.ownsRow w.heap.size 90 3 (.slice a ms.length c) ms.length (mCells ms) ∧ Below w.heap.size w w'
theorem keptle (m : Int) (ms : List ItV) (i : Nat) : (kept m (ms.take i)).length ≤ ms.length := Nat.le_trans (kept_length_le m _) (by rw [List.length_take]; omega)

set_option maxRecDepth 100000 in
theorem refDrop_any (most m : Int) (a : Option Addr) (c : Nat) (ms : List ItV) (w : World) (hm : MAt w a ms) :
    Calls Try.prog 42 #[.agg #[.int .i64 most, .slice a ms.length c], .int .i64 m] w (MRet w most (kept m ms)) := by
  obtain ⟨n, hn⟩ : ∃ n, ms.length = n := ⟨_, rfl⟩
  have HM := hid hm
  have hl := hm.len
  have hs := fun i => keptle m ms i
  rw [hn] at hl hs ⊢
  have HN := hid hn
  have HT : Hid (ms.take n = ms) := hid (by rw [← hn]; exact List.take_length)
  clear hm hn
  obtain ⟨W0, hW0⟩ : ∃ W0, W0 = (w.alloc (.cells #[.int .i64 most, .slice a n c] 79)).alloc (.cells #[.int .i64 0, .slice none 0 0] 79) := ⟨_, rfl⟩
  have hB0 : Below w.heap.size w W0 := by rw [hW0]; (repeat (first | with_reducible exact Below.refl _ _ | ((with_reducible refine Below.alloc1 ?_ ?_ _); (· first | omega | (simp; done) | (simp; omega))) | (with_reducible refine Below.drew ?_) | (with_reducible refine below_drewN' ?_ _) | ((with_reducible refine Below.setCell1 ?_ ?_ _); (· first | omega | (simp; done) | (simp; omega))) | ((with_reducible refine Below.after (by assumption) ?_ ?_); (· first | omega | (simp; done) | (simp; omega)))))
  have hz0 : W0.heap.size = w.heap.size + 2 := by rw [hW0]; simp
  have s0 : W0.cell? ⟨w.heap.size, 0, none⟩ = some (.int .i64 most) := by rw [hW0]; simp [go_sem]
  have s1 : W0.cell? ⟨w.heap.size, 1, none⟩ = some (.slice a n c) := by rw [hW0]; simp [go_sem]
  have s2 : W0.cell? ⟨w.heap.size + 1, 0, none⟩ = some (.int .i64 0) := by rw [hW0]; simp [go_sem]
  have s3 : W0.cell? ⟨w.heap.size + 1, 1, none⟩ = some (.slice none 0 0) := by rw [hW0]; simp [go_sem]
  have fz : ∀ j k, j < 2 → W0.frozen? ⟨w.heap.size + j, k, none⟩ = false := fun j k hj => by
    rcases j with _ | _ | j
    · rw [hW0]; simp [go_sem]
    · rw [hW0]; simp [go_sem]
    · omega
  have h00 : Below W0.heap.size W0 (W0.alloc (.cells #[] 90)) := by (repeat (first | with_reducible exact Below.refl _ _ | ((with_reducible refine Below.alloc1 ?_ ?_ _); (· first | omega | (simp; done) | (simp; omega))) | (with_reducible refine Below.drew ?_) | (with_reducible refine below_drewN' ?_ _) | ((with_reducible refine Below.setCell1 ?_ ?_ _); (· first | omega | (simp; done) | (simp; omega))) | ((with_reducible refine Below.after (by assumption) ?_ ?_); (· first | omega | (simp; done) | (simp; omega)))))
  have hown0 : (W0.alloc (.cells #[] 90)).ownsRow W0.heap.size 90 3 (.slice (some ⟨W0.heap.size, 0, none⟩) 0 0) 0 [] :=
    ⟨rfl, .inr ⟨W0.heap.size, 0, #[], rfl, Nat.le_refl _, heap_alloc_new W0 _, Nat.le_refl _, by unfold maxLen; omega, rfl, rfl⟩⟩
  have H0 := hid hown0
  have HF := hid fz
  clear hown0 fz
  go_enter Try.func42, Try.ntmps42
  go_wp2
  rw [← hW0]
  clear hW0
  go_loopw [6, 5] (fun iv uv wr => ∃ (i : Nat) (u : Option Addr) (cu : Nat), i ≤ n ∧ iv = .int .i64 i ∧ uv = .slice u (kept m (ms.take i)).length cu ∧ Hid (wr.ownsRow W0.heap.size 90 3 (.slice u (kept m (ms.take i)).length cu) (kept m (ms.take i)).length (mCells (kept m (ms.take i)))) ∧ Below W0.heap.size W0 wr) (fun iv _ _ => n - (intOf iv).toNat)
  case atStart => exact ⟨0, some ⟨W0.heap.size, 0, none⟩, 0, Nat.zero_le _, rfl, by rw [hz0]; rfl, H0, h00⟩
  case round =>
    obtain ⟨i, u, cu, hin, rfl, rfl, HO, hb⟩ := hrel
    have hz := hb.size
    have hy0 : w.heap.size < W0.heap.size := by omega
    have hy1 : w.heap.size + 1 < W0.heap.size := by omega
    have e0 := (hb.cell (p := ⟨w.heap.size, 0, none⟩) hy0).trans s0
    have e1 := (hb.cell (p := ⟨w.heap.size, 1, none⟩) hy0).trans s1
    have e2 := (hb.cell (p := ⟨w.heap.size + 1, 0, none⟩) hy1).trans s2
    have e3 := (hb.cell (p := ⟨w.heap.size + 1, 1, none⟩) hy1).trans s3
    have e4 := (hb.frozen (p := ⟨w.heap.size, 1, none⟩) hy0).trans (HF.out 0 1 (by omega))
    have e5 := (hb.frozen (p := ⟨w.heap.size + 1, 0, none⟩) hy1).trans (HF.out 1 0 (by omega))
    have e6 := (hb.frozen (p := ⟨w.heap.size + 1, 1, none⟩) hy1).trans (HF.out 1 1 (by omega))
    have hkl := hs i
    by_cases hlt : i < n
    · have hlt' : (i : Int) < (n : Int) := by omega
      have hil : i < ms.length := by rw [HN.out]; exact hlt
      obtain ⟨g, rfl, hg, hcs⟩ := HM.out.row (by omega)
      obtain ⟨d0, d1, d2⟩ := hcs i hil
      have hg0 : g < W0.heap.size := by omega
      have d0 := (hb.cell (p := ⟨g, _, none⟩) hg0).trans ((hB0.cell (p := ⟨g, _, none⟩) hg).trans d0)
      have d1 := (hb.cell (p := ⟨g, _, none⟩) hg0).trans ((hB0.cell (p := ⟨g, _, none⟩) hg).trans d1)
      have d2 := (hb.cell (p := ⟨g, _, none⟩) hg0).trans ((hB0.cell (p := ⟨g, _, none⟩) hg).trans d2)
      have hx := it_some hil
      have hsn := kept_snoc m hx
      generalize ms[i]?.getD default = x at *
      clear hcs hil hx
      by_cases hq : m < x.n
      · rw [if_neg (by simp; omega)] at hsn
        have HK := hid hsn
        clear hsn
        obtain ⟨a', c', w', hr, ho', hb'⟩ := app1 x hb HO.out hb.size (by omega)
        have hr' := fun ty => hr ty
        have HO' := hid ho'
        clear ho' hr
        go_wp2_with (at_builtin; refine Lib.wpList_append_run _ rfl _ _ _ _ rfl _ _ rfl rfl _ _ (hr' _) ?_)
        go_roundw
        case rel => exact ⟨i + 1, a', c', by omega, by go_num, by rw [HK.out, List.length_append]; rfl, hid (by rw [HK.out, List.length_append]; exact HO'.out), hb'⟩
        case measure => simp [intOf]; omega
      · rw [if_pos (by simp; omega), List.append_nil] at hsn
        have HK := hid hsn
        have hq' : x.n ≤ m := by omega
        clear hsn hq
        go_wp2
        go_roundw
        case rel => exact ⟨i + 1, u, cu, by omega, by go_num, by rw [HK.out], hid (by rw [HK.out]; exact HO.out), hb⟩
        case measure => simp [intOf]; omega
    · obtain rfl : i = n := by omega
      rw [HT.out] at HO ⊢
      have hfin : ∀ W, Below w.heap.size w W → W.ownsRow W0.heap.size 90 3 (.slice u (kept m ms).length cu) (kept m ms).length (mCells (kept m ms)) → MRet w most (kept m ms) (.returned (.agg #[.int .i64 most, .slice u (kept m ms).length cu])) W := fun W h1 h2 =>
        ⟨u, cu, rfl, own_le h2 (by omega), h1⟩
      have HFn := hid hfin
      clear hfin
      have hbw : Below w.heap.size w wr := hB0.trans (hb.mono (by omega))
      have hlo := HO.out.lt
      have hown3 : ∀ v1 v2 v3, (((wr.setCell ⟨w.heap.size, 1, none⟩ v1).setCell ⟨w.heap.size + 1, 0, none⟩ v2).setCell ⟨w.heap.size + 1, 1, none⟩ v3).ownsRow W0.heap.size 90 3 (.slice u (kept m ms).length cu) (kept m ms).length (mCells (kept m ms)) := fun v1 v2 v3 =>
        ownsRow_setCell_other (ownsRow_setCell_other (ownsRow_setCell_other HO.out (fun e => by have := (hlo _ e).1; simp at this; omega) _) (fun e => by have := (hlo _ e).1; simp at this; omega) _) (fun e => by have := (hlo _ e).1; simp at this; omega) _
      have HO3 := hid hown3
      clear hown3 hlo
      go_wp2
      exact bodyPost_ret (v := .agg #[.int .i64 most, .slice u (kept m ms).length cu]) (by simp [results, Try.results42, go_sem, *]) rfl (HFn.out _ (by (repeat (first | with_reducible exact Below.refl _ _ | ((with_reducible refine Below.alloc1 ?_ ?_ _); (· first | omega | (simp; done) | (simp; omega))) | (with_reducible refine Below.drew ?_) | (with_reducible refine below_drewN' ?_ _) | ((with_reducible refine Below.setCell1 ?_ ?_ _); (· first | omega | (simp; done) | (simp; omega))) | ((with_reducible refine Below.after (by assumption) ?_ ?_); (· first | omega | (simp; done) | (simp; omega)))))) (HO3.out _ _ _))
end Go.Proofs.Ytnlaepogkepnhaa.Q
