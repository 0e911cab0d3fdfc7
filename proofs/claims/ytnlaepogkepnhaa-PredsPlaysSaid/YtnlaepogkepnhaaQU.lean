/- The table of layer 10: At, Len, New, Clear, Put. -/
import Derived.Test.YtnlaepogkepnhaaQT
import Derived.Test.YtnlaepogkepnhaaNoteL
import Derived.StillTailTactics
namespace Go.Proofs.Ytnlaepogkepnhaa.Q
set_option linter.unusedVariables false
open Go.RowKit Fl

theorem plcB_lt {its : List ItV} {kb : Rg} (h : plcB its kb = true) : plcI its kb < its.length := by
  unfold plcB at h
  cases e : its[plcI its kb]? with
  | none => rw [e] at h; cases h
  | some x => exact (List.getElem?_eq_some_iff.1 e).1
theorem plcI_le (its : List ItV) (kb : Rg) : plcI its kb ≤ its.length := List.findIdx_le_length

/-- The greatest number of the forms that have a key. -/
def atI (its : List ItV) (key : Nat) : Int := its.foldl (fun m x => if hasB x.k.rg key = true then max m x.n else m) 0
theorem atI_snoc (its : List ItV) (x : ItV) (key : Nat) : atI (its ++ [x]) key = if hasB x.k.rg key = true then max (atI its key) x.n else atI its key := by simp [atI, List.foldl_append]
theorem at_skip (key : Nat) : ∀ (its : List ItV) (m : Int), (∀ x ∈ its, hasB x.k.rg key = false) → its.foldl (fun m x => if hasB x.k.rg key = true then max m x.n else m) m = m
  | [], m, _ => rfl
  | x :: its, m, h => by
    rw [List.foldl_cons, h x (by simp)]
    simp only [Bool.false_eq_true, if_false]
    exact at_skip key its m fun y hy => h y (by simp [hy])
theorem at_step {its : List ItV} {i : Nat} {x : ItV} {key : Nat} (hx : its[i]? = some x) : atI (its.take (i + 1)) key = if hasB x.k.rg key = true then max (atI (its.take i) key) x.n else atI (its.take i) key := by
  rw [List.take_add_one, hx]
  exact atI_snoc _ _ _
theorem at_end {its : List ItV} (hr : rises its) {key i : Nat} {x : ItV} (hx : its[i]? = some x) (hd : flt key x.k.lo.bits = true) : atI its key = atI (its.take i) key := by
  obtain ⟨h1, h2⟩ := List.getElem?_eq_some_iff.1 hx
  unfold atI
  conv => lhs; rw [← List.take_append_drop i its, List.foldl_append]
  refine at_skip _ _ _ fun y hy => ?_
  obtain ⟨j, hj, rfl⟩ := List.getElem_of_mem hy
  rw [List.length_drop] at hj
  rw [List.getElem_drop]
  have hlo : x.k.lo.v ≤ its[i + j].k.lo.v := by
    rcases Nat.eq_zero_or_pos j with rfl | hj0
    · simp only [Nat.add_zero, h2]; exact Int.le_refl _
    · have := (List.pairwise_iff_getElem.1 hr) i (i + j) h1 (by omega) (by omega)
      rw [h2] at this
      have := (codeR_some _ _ _ _).1 this
      omega
  show hasB (some (_, _)) key = false
  simp only [hasB]
  simp [flt, fle, Key.bits_nan, Key.kof_bits] at hd ⊢
  intro _ h
  omega

set_option maxRecDepth 100000 in
theorem tabAt_any {w : World} {B T : Nat} {v : Value} {most : Int} {its : List ItV} (h : TabAt w B T v most its) (hr : rises its) (key : Nat) (hk : key < 2 ^ 64) :
    Calls Try.prog 32 #[.pointer (some ⟨T, 0, none⟩), .float .f64 key] w (Ret (.int .i64 (atI its key)) w) := by
  have hT := h.lt
  have c1 := cell_row h.tab 1
  simp at c1
  obtain ⟨va, vc, rfl⟩ := own_slice h.own
  have hva := fun h0 => own_at h.own rfl h0
  have hstep := fun i x => at_step (i := i) (x := x) (its := its) (key := key)
  have hend := fun i x => at_end (i := i) (x := x) hr (key := key)
  have htl : atI (its.take its.length) key = atI its key := by rw [List.take_length]
  obtain ⟨n, hn⟩ : ∃ n, its.length = n := ⟨_, rfl⟩
  have hl := h.len
  rw [hn] at hl htl hva c1
  have HN := hid hn
  have HA := hid hva
  have HS := hid hstep
  have HE := hid hend
  have HT := hid htl
  clear h hn hva hstep hend htl hr
  go_enter Try.func32, Try.ntmps32
  go_wp2
  go_loopw [5, 13] (fun uv iv wr => ∃ i : Nat, i ≤ n ∧ iv = .int .i64 i ∧ uv = .int .i64 (atI (its.take i) key) ∧ Below w.heap.size w wr) (fun _ iv _ => n - (intOf iv).toNat)
  case atStart => exact ⟨0, Nat.zero_le _, rfl, rfl, by (repeat (first | with_reducible exact Below.refl _ _ | ((with_reducible refine Below.alloc1 ?_ ?_ _); (· first | omega | (simp; done) | (simp; omega))) | (with_reducible refine Below.drew ?_) | (with_reducible refine below_drewN' ?_ _) | ((with_reducible refine Below.setCell1 ?_ ?_ _); (· first | omega | (simp; done) | (simp; omega))) | ((with_reducible refine Below.after (by assumption) ?_ ?_); (· first | omega | (simp; done) | (simp; omega)))))⟩
  case round =>
    obtain ⟨i, hin, rfl, rfl, hb⟩ := hrel
    have hz := hb.size
    by_cases hlt : i < n
    · have hlt' : (i : Int) < (n : Int) := by omega
      have hil : i < its.length := by rw [HN.out]; exact hlt
      obtain ⟨g, rfl, hg, hcs⟩ := HA.out (by omega)
      obtain ⟨d0, d1, d2, d3, d4⟩ := hcs i hlt
      have d0 := (hb.cell (p := ⟨g, _, none⟩) hg).trans d0
      have d1 := (hb.cell (p := ⟨g, _, none⟩) hg).trans d1
      have d2 := (hb.cell (p := ⟨g, _, none⟩) hg).trans d2
      have d3 := (hb.cell (p := ⟨g, _, none⟩) hg).trans d3
      have d4 := (hb.cell (p := ⟨g, _, none⟩) hg).trans d4
      have hgw : g < wr.heap.size := by omega
      have hx := it_some hil
      have hst := HS.out i _ hx
      have hen := HE.out i _ hx
      generalize its[i]?.getD default = x at *
      generalize hcur : atI (its.take i) key = cur at *
      clear hcs hil hx
      cases hq : flt key x.k.lo.bits
      · cases hh : hasB x.k.rg key
        · rw [hh] at hst
          have hhas := fun W => has_is x.k.lo.bits x.k.hi.bits false false key false W (Key.bits_lt _) (Key.bits_lt _) (hid (by rw [canonS_canon _ _ x.k.le]; exact hh))
          have hst := hid hst
          clear hen hh
          go_wp2_with (go_at_call 29; (with_reducible refine (hhas _).mono ?_); rintro e w1 ⟨rfl, hb1⟩; obtain ⟨hc1, hf1⟩ := bcell hb1; (try simp only [World.heap_drewN, World.cell?_drewN, World.frozen?_drewN] at hc1 hf1); have hz1 := hb1.size; (try simp at hz1); (try have hy1_0 : w.heap.size < w1.heap.size := by omega); (try have hy1_1 : w.heap.size + 1 < w1.heap.size := by omega); (try have hy1_2 : w.heap.size + 2 < w1.heap.size := by omega); (try have hy1_3 : w.heap.size + 3 < w1.heap.size := by omega); (try have hx1_0 : w.heap.size ≤ w1.heap.size := by omega); (try have hx1_1 : w.heap.size + 1 ≤ w1.heap.size := by omega); (try have hx1_2 : w.heap.size + 2 ≤ w1.heap.size := by omega))
          go_roundw
          case rel => exact ⟨i + 1, by omega, by go_num, by rw [hst.out]; rfl, by (repeat (first | with_reducible exact Below.refl _ _ | ((with_reducible refine Below.alloc1 ?_ ?_ _); (· first | omega | (simp; done) | (simp; omega))) | (with_reducible refine Below.drew ?_) | (with_reducible refine below_drewN' ?_ _) | ((with_reducible refine Below.setCell1 ?_ ?_ _); (· first | omega | (simp; done) | (simp; omega))) | ((with_reducible refine Below.after (by assumption) ?_ ?_); (· first | omega | (simp; done) | (simp; omega)))))⟩
          case measure => simp [intOf]; omega
        · rw [hh] at hst
          have hhas := fun W => has_is x.k.lo.bits x.k.hi.bits false false key true W (Key.bits_lt _) (Key.bits_lt _) (hid (by rw [canonS_canon _ _ x.k.le]; exact hh))
          have hst := hid hst
          clear hen hh
          go_wp2_with (go_at_call 29; (with_reducible refine (hhas _).mono ?_); rintro e w1 ⟨rfl, hb1⟩; obtain ⟨hc1, hf1⟩ := bcell hb1; (try simp only [World.heap_drewN, World.cell?_drewN, World.frozen?_drewN] at hc1 hf1); have hz1 := hb1.size; (try simp at hz1); (try have hy1_0 : w.heap.size < w1.heap.size := by omega); (try have hy1_1 : w.heap.size + 1 < w1.heap.size := by omega); (try have hy1_2 : w.heap.size + 2 < w1.heap.size := by omega); (try have hy1_3 : w.heap.size + 3 < w1.heap.size := by omega); (try have hx1_0 : w.heap.size ≤ w1.heap.size := by omega); (try have hx1_1 : w.heap.size + 1 ≤ w1.heap.size := by omega); (try have hx1_2 : w.heap.size + 2 ≤ w1.heap.size := by omega))
          all_goals
            go_roundw
            case rel => exact ⟨i + 1, by omega, by go_num, by rw [hst.out]; simp, by (repeat (first | with_reducible exact Below.refl _ _ | ((with_reducible refine Below.alloc1 ?_ ?_ _); (· first | omega | (simp; done) | (simp; omega))) | (with_reducible refine Below.drew ?_) | (with_reducible refine below_drewN' ?_ _) | ((with_reducible refine Below.setCell1 ?_ ?_ _); (· first | omega | (simp; done) | (simp; omega))) | ((with_reducible refine Below.after (by assumption) ?_ ?_); (· first | omega | (simp; done) | (simp; omega)))))⟩
            case measure => simp [intOf]; omega
      · have hen := hid (hen hq)
        go_wp2
        go_ret
        exact ⟨by rw [hen.out]; rfl, by (repeat (first | with_reducible exact Below.refl _ _ | ((with_reducible refine Below.alloc1 ?_ ?_ _); (· first | omega | (simp; done) | (simp; omega))) | (with_reducible refine Below.drew ?_) | (with_reducible refine below_drewN' ?_ _) | ((with_reducible refine Below.setCell1 ?_ ?_ _); (· first | omega | (simp; done) | (simp; omega))) | ((with_reducible refine Below.after (by assumption) ?_ ?_); (· first | omega | (simp; done) | (simp; omega)))))⟩
    · obtain rfl : i = n := by omega
      rw [HT.out]
      go_wp2
      go_ret
      exact ⟨rfl, by (repeat (first | with_reducible exact Below.refl _ _ | ((with_reducible refine Below.alloc1 ?_ ?_ _); (· first | omega | (simp; done) | (simp; omega))) | (with_reducible refine Below.drew ?_) | (with_reducible refine below_drewN' ?_ _) | ((with_reducible refine Below.setCell1 ?_ ?_ _); (· first | omega | (simp; done) | (simp; omega))) | ((with_reducible refine Below.after (by assumption) ?_ ?_); (· first | omega | (simp; done) | (simp; omega)))))⟩

theorem tabLen_any {w : World} {B T : Nat} {v : Value} {most : Int} {its : List ItV} (h : TabAt w B T v most its) :
    Calls Try.prog 35 #[.pointer (some ⟨T, 0, none⟩)] w (Ret (.int .i64 its.length) w) := by
  have c1 := cell_row h.tab 1
  simp at c1
  have hown := h.own
  rcases hown.2 with ⟨rfl, h0⟩ | ⟨g, cap, cur, rfl, hbg, hg, hnc, hcm, hcs, htake⟩
  · have := itCells_len its
    rw [h0] at this; simp at this
    rw [show its.length = 0 by omega]
    clear h hown this h0
    go_enter Try.func35, Try.ntmps35
    go_wp2
    go_ret
    exact ⟨rfl, by (repeat (first | with_reducible exact Below.refl _ _ | ((with_reducible refine Below.alloc1 ?_ ?_ _); (· first | omega | (simp; done) | (simp; omega))) | (with_reducible refine Below.drew ?_) | (with_reducible refine below_drewN' ?_ _) | ((with_reducible refine Below.setCell1 ?_ ?_ _); (· first | omega | (simp; done) | (simp; omega))) | ((with_reducible refine Below.after (by assumption) ?_ ?_); (· first | omega | (simp; done) | (simp; omega)))))⟩
  · generalize its.length = n at *
    clear h hown hg hcs htake
    go_enter Try.func35, Try.ntmps35
    go_wp2
    go_ret
    exact ⟨rfl, by (repeat (first | with_reducible exact Below.refl _ _ | ((with_reducible refine Below.alloc1 ?_ ?_ _); (· first | omega | (simp; done) | (simp; omega))) | (with_reducible refine Below.drew ?_) | (with_reducible refine below_drewN' ?_ _) | ((with_reducible refine Below.setCell1 ?_ ?_ _); (· first | omega | (simp; done) | (simp; omega))) | ((with_reducible refine Below.after (by assumption) ?_ ?_); (· first | omega | (simp; done) | (simp; omega)))))⟩

/-- How many a table may hold. -/
def mostI (m : Int) : Int := min (max m 0) 64
def NewRet (B : Nat) (w : World) (m : Int) (e : Ending) (w' : World) : Prop := e = .returned (.pointer (some ⟨w.heap.size, 0, none⟩)) ∧ TabAt w' B w.heap.size (.slice none 0 0) (mostI m) [] ∧ Below w.heap.size w w'
theorem tabNew_any (B : Nat) (m : Int) (w : World) (hB : B ≤ w.heap.size) (h1 : -9223372036854775808 ≤ m) (h2 : m ≤ 9223372036854775807) :
    Calls Try.prog 30 #[.int .i64 m] w (NewRet B w m) := by
  go_enter Try.func30, Try.ntmps30
  go_wp2
  go_ret
  refine ⟨rfl, ⟨?_, World.ownsRow_nil _ _ _ _, by simp [Value.ownBlock], hB, by simp⟩, by (repeat (first | with_reducible exact Below.refl _ _ | ((with_reducible refine Below.alloc1 ?_ ?_ _); (· first | omega | (simp; done) | (simp; omega))) | (with_reducible refine Below.drew ?_) | (with_reducible refine below_drewN' ?_ _) | ((with_reducible refine Below.setCell1 ?_ ?_ _); (· first | omega | (simp; done) | (simp; omega))) | ((with_reducible refine Below.after (by assumption) ?_ ?_); (· first | omega | (simp; done) | (simp; omega)))))⟩
  exact heap_alloc_new w _

theorem Upd.of_below {w w' : World} (h : Below w.heap.size w w') (T : Nat) (v : Value) : Upd w w' T v v := ⟨h.os, h.tape, h.output, h.size, fun k hk _ _ => h.block k hk, .inl rfl⟩

theorem tabClear_any {w : World} {B T : Nat} {v : Value} {most : Int} {its : List ItV} (h : TabAt w B T v most its) :
    Calls Try.prog 43 #[.pointer (some ⟨T, 0, none⟩)] w fun e w' => e = .returned (.tuple #[]) ∧ TabAt w' B T (.slice none 0 0) most [] ∧ Upd w w' T v (.slice none 0 0) := by
  have c1 := cell_row h.tab 1
  simp at c1
  have f1 : w.frozen? ⟨T, 1, none⟩ = false := by simp [World.frozen?, h.tab]
  have hfin : TabAt (w.setCell ⟨T, 1, none⟩ (.slice none 0 0)) B T (.slice none 0 0) most [] ∧ Upd w (w.setCell ⟨T, 1, none⟩ (.slice none 0 0)) T v (.slice none 0 0) := by
    have e := setCell_eq_setRow w T 1 _ _ _ (.slice none 0 0) h.tab
    rw [e]
    refine ⟨⟨by rw [setRow_heap w T _ _ _ _ h.tab]; rfl, World.ownsRow_nil _ _ _ _, by simp [Value.ownBlock], h.low, by simp⟩, ⟨rfl, rfl, rfl, by simp, fun k _ hk _ => setRow_other _ _ _ _ hk, .inr (.inl rfl)⟩⟩
  have hfin' := hid hfin
  clear h hfin
  go_enter Try.func43, Try.ntmps43
  go_wp2
  go_end0
  exact ⟨rfl, hfin'.out⟩

end Go.Proofs.Ytnlaepogkepnhaa.Q
