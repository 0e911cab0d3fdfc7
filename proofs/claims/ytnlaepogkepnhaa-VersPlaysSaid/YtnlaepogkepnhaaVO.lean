/- The table of layer 9: Over. -/
import Derived.Test.YtnlaepogkepnhaaVU
import Derived.Test.YtnlaepogkepnhaaG0
import Derived.Test.YtnlaepogkepnhaaVF
namespace Go.Proofs.Ytnlaepogkepnhaa
set_option linter.unusedVariables false
open Go.RowKit Fl

/-- The greatest number of a span's keys. -/
def overI (its : List ItV) (r : Rg) : Int := its.foldl (fun m x => if hasB r x.k.bits = true then max m x.n else m) 0
theorem overI_snoc (its : List ItV) (x : ItV) (r : Rg) : overI (its ++ [x]) r = if hasB r x.k.bits = true then max (overI its r) x.n else overI its r := by simp [overI, List.foldl_append]
theorem fold_skip (r : Rg) : ∀ (its : List ItV) (m : Int), (∀ x ∈ its, hasB r x.k.bits = false) → its.foldl (fun m x => if hasB r x.k.bits = true then max m x.n else m) m = m
  | [], m, _ => rfl
  | x :: its, m, h => by
    rw [List.foldl_cons, h x (by simp)]
    simp only [Bool.false_eq_true, if_false]
    exact fold_skip r its m fun y hy => h y (by simp [hy])
theorem overI_none (its : List ItV) : overI its none = 0 := fold_skip none its 0 fun _ _ => rfl
theorem hasB_kk (l h k : Key) : hasB (some (l, h)) k.bits = (decide (l.v ≤ k.v) && decide (k.v ≤ h.v)) := by simp [hasB, fle_kk]

theorem plc_before {its : List ItV} {kb i : Nat} {x : ItV} (hi : i < plcI its kb) (hx : its[i]? = some x) : codeOf x.k.bits < codeOf kb := by
  have := List.not_of_lt_findIdx hi
  rw [List.getElem?_eq_some_iff] at hx
  obtain ⟨h1, rfl⟩ := hx
  simpa using this
theorem plc_behind {its : List ItV} (hr : rises its) {kb i : Nat} {x : ItV} (hi : plcI its kb ≤ i) (hx : its[i]? = some x) : codeOf kb ≤ codeOf x.k.bits := by
  obtain ⟨h1, h2⟩ := List.getElem?_eq_some_iff.1 hx
  have hp : plcI its kb < its.length := by omega
  have h3 : ¬ codeOf its[plcI its kb].k.bits < codeOf kb := by
    have e := List.findIdx_getElem (w := (show List.findIdx (fun x : ItV => !decide (codeOf x.k.bits < codeOf kb)) its < its.length from hp))
    rw [Bool.not_eq_true', decide_eq_false_iff_not] at e
    exact e
  apply Int.not_lt.1
  intro h4
  exact h3 (rises_mono hr kb _ _ hi _ _ (List.getElem?_eq_getElem hp) hx h4)

theorem over_start {its : List ItV} (l h : Key) : overI (its.take (plcI its l.bits)) (some (l, h)) = 0 := by
  refine fold_skip _ _ 0 fun x hx => ?_
  obtain ⟨j, hj, rfl⟩ := List.getElem_of_mem hx
  rw [List.length_take] at hj
  have hj' : j < its.length := by omega
  have := plc_before (its := its) (kb := l.bits) (i := j) (by omega) (List.getElem?_eq_getElem hj')
  rw [codeOf_key, codeOf_key, kcode_lt] at this
  rw [List.getElem_take, hasB_kk]
  simp; omega
theorem over_step {its : List ItV} (hr : rises its) {l h : Key} {i : Nat} {x : ItV} (hi : plcI its l.bits ≤ i) (hx : its[i]? = some x) (hd : decide (x.k.v ≤ h.v) = true) : overI (its.take (i + 1)) (some (l, h)) = max (overI (its.take i) (some (l, h))) x.n := by
  have h1 := plc_behind hr hi hx
  rw [codeOf_key, codeOf_key] at h1
  have h2 := kcode_lt x.k l
  rw [List.take_add_one, hx]
  show overI (_ ++ [x]) _ = _
  rw [overI_snoc, hasB_kk, hd, if_pos (by simp; omega)]
theorem over_end {its : List ItV} (hr : rises its) {l h : Key} {i : Nat} {x : ItV} (hx : its[i]? = some x) (hd : decide (x.k.v ≤ h.v) = false) : overI its (some (l, h)) = overI (its.take i) (some (l, h)) := by
  obtain ⟨h1, h2⟩ := List.getElem?_eq_some_iff.1 hx
  unfold overI
  conv => lhs; rw [← List.take_append_drop i its, List.foldl_append]
  refine fold_skip _ _ _ fun y hy => ?_
  obtain ⟨j, hj, rfl⟩ := List.getElem_of_mem hy
  rw [List.length_drop] at hj
  rw [List.getElem_drop, hasB_kk]
  simp at hd ⊢
  intro _
  rcases Nat.eq_zero_or_pos j with rfl | hj0
  · simp only [Nat.add_zero, h2]; exact hd
  · have := (List.pairwise_iff_getElem.1 hr) i (i + j) h1 (by omega) (by omega)
    rw [h2] at this; omega

set_option maxRecDepth 100000 in
theorem tabOver_any {w : World} {B T : Nat} {v : Value} {most : Int} {its : List ItV} (h : TabAt w B T v most its) (hr : rises its) (lo hi : Nat) (a b : Bool) (hl : lo < 2 ^ 64) (hh : hi < 2 ^ 64) :
    Calls Try.prog 14 #[.pointer (some ⟨T, 0, none⟩), .agg #[.float .f64 lo, .float .f64 hi, .bool a, .bool b]] w (Ret (.int .i64 (overI its (canonS lo hi a b))) w) := by
  obtain ⟨r, hrr⟩ : ∃ r, canonS lo hi a b = r := ⟨_, rfl⟩
  rw [hrr]
  have Hr : Hid (canonS lo hi a b = r) := hrr
  rcases r with _ | ⟨l, hk⟩
  · clear hrr
    rw [overI_none]
    have He : Hid ((canonS 0 0 true true).isNone = true) := hid (by rw [canonS_empty]; rfl)
    clear h
    go_enter Try.func14, Try.ntmps14
    go_wp2_with (first | (go_at_call 39; (with_reducible refine (canon_isN _ _ _ _ _ hl hh Hr).mono ?_); rintro e w1 ⟨rfl, hb1⟩; obtain ⟨hc1, hf1⟩ := bcell hb1; (try simp only [World.heap_drewN, World.cell?_drewN, World.frozen?_drewN] at hc1 hf1); have hz1 := hb1.size; (try simp at hz1); (try have hy1_0 : w.heap.size < w1.heap.size := by omega); (try have hy1_1 : w.heap.size + 1 < w1.heap.size := by omega); (try have hy1_2 : w.heap.size + 2 < w1.heap.size := by omega); (try have hy1_3 : w.heap.size + 3 < w1.heap.size := by omega); (try have hx1_0 : w.heap.size ≤ w1.heap.size := by omega); (try have hx1_1 : w.heap.size + 1 ≤ w1.heap.size := by omega); (try have hx1_2 : w.heap.size + 2 ≤ w1.heap.size := by omega)) | (go_at_call 48; (with_reducible refine (empty_is _ _ _ _ true _ (by omega) (by omega) He).mono ?_); rintro e w2 ⟨rfl, hb2⟩; obtain ⟨hc2, hf2⟩ := bcell hb2; (try simp only [World.heap_drewN, World.cell?_drewN, World.frozen?_drewN] at hc2 hf2); have hz2 := hb2.size; (try simp at hz2); (try have hy2_0 : w.heap.size < w2.heap.size := by omega); (try have hy2_1 : w.heap.size + 1 < w2.heap.size := by omega); (try have hy2_2 : w.heap.size + 2 < w2.heap.size := by omega); (try have hy2_3 : w.heap.size + 3 < w2.heap.size := by omega); (try have hx2_0 : w.heap.size ≤ w2.heap.size := by omega); (try have hx2_1 : w.heap.size + 1 ≤ w2.heap.size := by omega); (try have hx2_2 : w.heap.size + 2 ≤ w2.heap.size := by omega)))
    go_ret
    exact ⟨rfl, by (repeat (first | with_reducible exact Below.refl _ _ | ((with_reducible refine Below.alloc1 ?_ ?_ _); (· first | omega | (simp; done) | (simp; omega))) | (with_reducible refine Below.drew ?_) | (with_reducible refine below_drewN' ?_ _) | ((with_reducible refine Below.setCell1 ?_ ?_ _); (· first | omega | (simp; done) | (simp; omega))) | ((with_reducible refine Below.after (by assumption) ?_ ?_); (· first | omega | (simp; done) | (simp; omega)))))⟩
  · have ok := canonS_le hrr
    clear hrr
    have He : Hid ((canonS l.bits hk.bits false false).isNone = false) := hid (by rw [canonS_canon l hk ok]; rfl)
    obtain ⟨va, vc, rfl⟩ := own_slice h.own
    have HP : ∀ W, Below w.heap.size w W → Calls Try.prog 47 #[.pointer (some ⟨T, 0, none⟩), .float .f64 l.bits] W (Ret (.tuple #[.int .i64 (plcI its l.bits), .bool (plcB its l.bits)]) W) := fun W hb => place_any (h.below hb) hr l.bits (Key.bits_lt l)
    have hT := h.lt
    have c1 := cell_row h.tab 1
    simp at c1
    have hva : 0 < its.length → ∃ g, va = some ⟨g, 0, none⟩ ∧ g < w.heap.size ∧ ∀ i, i < its.length → w.cell? ⟨g, i * 2, none⟩ = some (.float .f64 (its[i]?.getD default).k.bits) ∧ w.cell? ⟨g, i * 2 + 1, none⟩ = some (.int .i64 (its[i]?.getD default).n) := by
      intro h0
      rcases h.own.2 with ⟨hv, h1⟩ | ⟨g, cap, cur, hv, hbg, hg, hnc, hcm, hcs, htake⟩
      · have := itCells_len its
        rw [h1] at this; simp at this; omega
      · obtain ⟨rfl, rfl⟩ : va = some ⟨g, 0, none⟩ ∧ vc = cap := by cases hv; exact ⟨rfl, rfl⟩
        exact ⟨g, rfl, (Array.getElem?_eq_some_iff.1 hg).1, own_cells h.own rfl⟩
    have h0 := over_start (its := its) l hk
    have hstep := fun i x => over_step (i := i) (x := x) hr (l := l) (h := hk)
    have hend := fun i x => over_end (i := i) (x := x) hr (l := l) (h := hk)
    have hple := plcI_le its l.bits
    have hlen := h.len
    generalize plcI its l.bits = p at *
    generalize plcB its l.bits = q at *
    have H0 := hid h0; have HS := hid hstep; have HE := hid hend; have HV := hid hva
    have HN : Hid (its.take its.length = its) := hid (List.take_length)
    obtain ⟨n, hn⟩ : ∃ n, its.length = n := ⟨_, rfl⟩
    rw [hn] at HV hple hlen c1 HN
    have Hn := hid hn
    clear h0 hstep hend hva h hn
    go_enter Try.func14, Try.ntmps14
    go_wp2_with (first | (go_at_call 39; (with_reducible refine (canon_isS _ _ _ _ l hk _ hl hh Hr).mono ?_); rintro e w1 ⟨rfl, hb1⟩; obtain ⟨hc1, hf1⟩ := bcell hb1; (try simp only [World.heap_drewN, World.cell?_drewN, World.frozen?_drewN] at hc1 hf1); have hz1 := hb1.size; (try simp at hz1); (try have hy1_0 : w.heap.size < w1.heap.size := by omega); (try have hy1_1 : w.heap.size + 1 < w1.heap.size := by omega); (try have hy1_2 : w.heap.size + 2 < w1.heap.size := by omega); (try have hy1_3 : w.heap.size + 3 < w1.heap.size := by omega); (try have hx1_0 : w.heap.size ≤ w1.heap.size := by omega); (try have hx1_1 : w.heap.size + 1 ≤ w1.heap.size := by omega); (try have hx1_2 : w.heap.size + 2 ≤ w1.heap.size := by omega)) | (go_at_call 48; (with_reducible refine (empty_is _ _ _ _ false _ (Key.bits_lt _) (Key.bits_lt _) He).mono ?_); rintro e w2 ⟨rfl, hb2⟩; obtain ⟨hc2, hf2⟩ := bcell hb2; (try simp only [World.heap_drewN, World.cell?_drewN, World.frozen?_drewN] at hc2 hf2); have hz2 := hb2.size; (try simp at hz2); (try have hy2_0 : w.heap.size < w2.heap.size := by omega); (try have hy2_1 : w.heap.size + 1 < w2.heap.size := by omega); (try have hy2_2 : w.heap.size + 2 < w2.heap.size := by omega); (try have hy2_3 : w.heap.size + 3 < w2.heap.size := by omega); (try have hx2_0 : w.heap.size ≤ w2.heap.size := by omega); (try have hx2_1 : w.heap.size + 1 ≤ w2.heap.size := by omega); (try have hx2_2 : w.heap.size + 2 ≤ w2.heap.size := by omega)) | (go_at_call 47; (with_reducible refine (HP _ (by (repeat (first | with_reducible exact Below.refl _ _ | ((with_reducible refine Below.alloc1 ?_ ?_ _); (· first | omega | (simp; done) | (simp; omega))) | (with_reducible refine Below.drew ?_) | (with_reducible refine below_drewN' ?_ _) | ((with_reducible refine Below.setCell1 ?_ ?_ _); (· first | omega | (simp; done) | (simp; omega))) | ((with_reducible refine Below.after (by assumption) ?_ ?_); (· first | omega | (simp; done) | (simp; omega))))))).mono ?_); rintro e w3 ⟨rfl, hb3⟩; obtain ⟨hc3, hf3⟩ := bcell hb3; (try simp only [World.heap_drewN, World.cell?_drewN, World.frozen?_drewN] at hc3 hf3); have hz3 := hb3.size; (try simp at hz3); (try have hy3_0 : w.heap.size < w3.heap.size := by omega); (try have hy3_1 : w.heap.size + 1 < w3.heap.size := by omega); (try have hy3_2 : w.heap.size + 2 < w3.heap.size := by omega); (try have hy3_3 : w.heap.size + 3 < w3.heap.size := by omega); (try have hx3_0 : w.heap.size ≤ w3.heap.size := by omega); (try have hx3_1 : w.heap.size + 1 ≤ w3.heap.size := by omega); (try have hx3_2 : w.heap.size + 2 ≤ w3.heap.size := by omega)))
    go_loopw [5, 6] (fun mv iv wr => ∃ i : Nat, p ≤ i ∧ i ≤ n ∧ iv = .int .i64 i ∧ mv = .int .i64 (overI (its.take i) (some (l, hk))) ∧ Below w.heap.size w wr ∧ w.heap.size < wr.heap.size ∧ wr.cell? ⟨w.heap.size, 1, none⟩ = some (.float .f64 hk.bits)) (fun _ iv _ => n - (intOf iv).toNat)
    case atStart => refine ⟨p, Nat.le_refl _, hple, rfl, by rw [H0.out], by (repeat (first | with_reducible exact Below.refl _ _ | ((with_reducible refine Below.alloc1 ?_ ?_ _); (· first | omega | (simp; done) | (simp; omega))) | (with_reducible refine Below.drew ?_) | (with_reducible refine below_drewN' ?_ _) | ((with_reducible refine Below.setCell1 ?_ ?_ _); (· first | omega | (simp; done) | (simp; omega))) | ((with_reducible refine Below.after (by assumption) ?_ ?_); (· first | omega | (simp; done) | (simp; omega))))), by assumption, by
      rw [hc3 _ _ (by assumption), hc2 _ _ (by simp; assumption)]
      simp [go_sem, *]⟩
    case round =>
      obtain ⟨i, hpi, hin, rfl, rfl, hbw, hsz, ch⟩ := hrel
      have cT := (hbw.cell (p := ⟨T, 1, none⟩) hT).trans c1
      by_cases hlt : i < n
      · obtain ⟨g, rfl, hgl, hcs⟩ := HV.out (by omega)
        have hlt' : (i : Int) < (n : Int) := by omega
        obtain ⟨d0, d1⟩ := hcs i hlt
        have hkx := hid (it_some (its := its) (k := i) (by rw [Hn.out]; exact hlt))
        have d0 := (hbw.cell (p := ⟨g, _, none⟩) hgl).trans d0
        have d1 := (hbw.cell (p := ⟨g, _, none⟩) hgl).trans d1
        clear hcs
        generalize its[i]?.getD default = x at *
        cases hd : decide (x.k.v ≤ hk.v)
        · have HX := hid (HE.out i x hkx.out hd)
          have hd' : (decide (x.k.v < hk.v) || decide (x.k.v = hk.v)) = false := by simp at hd ⊢; omega
          clear hd
          go_wp2
          go_quiet (fail)
          go_wp2
          go_ret
          exact ⟨by rw [HX.out]; rfl, by (repeat (first | with_reducible exact Below.refl _ _ | ((with_reducible refine Below.alloc1 ?_ ?_ _); (· first | omega | (simp; done) | (simp; omega))) | (with_reducible refine Below.drew ?_) | (with_reducible refine below_drewN' ?_ _) | ((with_reducible refine Below.setCell1 ?_ ?_ _); (· first | omega | (simp; done) | (simp; omega))) | ((with_reducible refine Below.after (by assumption) ?_ ?_); (· first | omega | (simp; done) | (simp; omega)))))⟩
        · have HX := hid (HS.out i x hpi hkx.out hd)
          have hd' : (decide (x.k.v < hk.v) || decide (x.k.v = hk.v)) = true := by simp at hd ⊢; omega
          clear hd
          go_wp2
          go_quiet (fail)
          go_wp2
          go_roundw
          case rel => exact ⟨i + 1, by omega, by omega, by go_num, by rw [HX.out], by (repeat (first | with_reducible exact Below.refl _ _ | ((with_reducible refine Below.alloc1 ?_ ?_ _); (· first | omega | (simp; done) | (simp; omega))) | (with_reducible refine Below.drew ?_) | (with_reducible refine below_drewN' ?_ _) | ((with_reducible refine Below.setCell1 ?_ ?_ _); (· first | omega | (simp; done) | (simp; omega))) | ((with_reducible refine Below.after (by assumption) ?_ ?_); (· first | omega | (simp; done) | (simp; omega))))), by simp; omega, by go_simp⟩
          case measure => simp [intOf]; omega
      · obtain rfl : i = n := by omega
        go_wp2
        go_quiet (fail)
        go_wp2
        go_ret
        exact ⟨by rw [HN.out]; rfl, by (repeat (first | with_reducible exact Below.refl _ _ | ((with_reducible refine Below.alloc1 ?_ ?_ _); (· first | omega | (simp; done) | (simp; omega))) | (with_reducible refine Below.drew ?_) | (with_reducible refine below_drewN' ?_ _) | ((with_reducible refine Below.setCell1 ?_ ?_ _); (· first | omega | (simp; done) | (simp; omega))) | ((with_reducible refine Below.after (by assumption) ?_ ?_); (· first | omega | (simp; done) | (simp; omega)))))⟩
end Go.Proofs.Ytnlaepogkepnhaa
