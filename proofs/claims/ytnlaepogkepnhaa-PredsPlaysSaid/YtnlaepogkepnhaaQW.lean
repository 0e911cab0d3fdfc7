/- The table of layer 10: Put. -/
import Derived.Test.YtnlaepogkepnhaaQU
namespace Go.Proofs.Ytnlaepogkepnhaa.Q
set_option linter.unusedSimpArgs false
set_option linter.unusedVariables false
open Go.RowKit Fl

/-- The form of keys. -/
def keyR : Rg → RK
  | none => default
  | some (l, h) => if hlh : l.v ≤ h.v then ⟨l, h, hlh⟩ else default
theorem keyR_rg {kb : Rg} (hk : okR kb) (h : kb ≠ none) : (keyR kb).rg = kb := by
  rcases kb with _ | ⟨l, h'⟩
  · exact absurd rfl h
  · have : l.v ≤ h'.v := hk
    simp [keyR, this, RK.rg]
theorem keyR_lo {kb : Rg} (hk : okR kb) (h : kb ≠ none) : (keyR kb).lo.bits = slo kb := by
  have := keyR_rg hk h
  rcases kb with _ | ⟨l, h'⟩
  · exact absurd rfl h
  · simp [RK.rg] at this; simp [slo, this]
theorem keyR_hi {kb : Rg} (hk : okR kb) (h : kb ≠ none) : (keyR kb).hi.bits = shi kb := by
  have := keyR_rg hk h
  rcases kb with _ | ⟨l, h'⟩
  · exact absurd rfl h
  · simp [RK.rg] at this; simp [shi, this]
theorem sop_some {kb : Rg} (h : kb ≠ none) : sop kb = false := by
  rcases kb with _ | ⟨l, h'⟩
  · exact absurd rfl h
  · rfl

/-- What Put answers, and the items behind it. -/
def putI (its : List ItV) (most : Int) (kb : Rg) (n : Int) : Int × List ItV :=
  if kb = none then (41, its) else if n < 1 ∨ 1099511627776 < n then (43, its)
  else if plcB its kb = true then (0, its.set (plcI its kb) ⟨(its[plcI its kb]?.getD default).k, max (its[plcI its kb]?.getD default).n n⟩)
  else if (its.length : Int) = most then (3, its) else (0, its.take (plcI its kb) ++ [⟨keyR kb, n⟩] ++ its.drop (plcI its kb))
def PutRet (w : World) (B T : Nat) (v : Value) (most : Int) (r : Int × List ItV) (e : Ending) (w' : World) : Prop := ∃ v', e = .returned (.int .i64 r.1) ∧ TabAt w' B T v' most r.2 ∧ Upd w w' T v v'

theorem itCells_setn : ∀ (its : List ItV) (p : Nat) (n : Int), p < its.length → itCells (its.set p ⟨(its[p]?.getD default).k, n⟩) = (itCells its).set (p * 5 + 4) (.int .i64 n)
  | [], _, _, h => by simp at h
  | x :: its, 0, n, _ => by simp [itCells, ItV.enc]
  | x :: its, p + 1, n, h => by
    have := itCells_setn its p n (by simpa using h)
    simp only [itCells] at this
    simp [itCells, ItV.enc, this, show (p + 1) * 5 + 4 = p * 5 + 4 + 1 + 1 + 1 + 1 + 1 by omega]

set_option maxRecDepth 100000 in
theorem tabPut_bad {w : World} {B T : Nat} {v : Value} {most : Int} {its : List ItV} (h : TabAt w B T v most its) (hr : rises its) (lo hi : Nat) (a b : Bool) (kb : Rg) (hl : lo < 2 ^ 64) (hh : hi < 2 ^ 64) (hkb : Hid (canonS lo hi a b = kb)) (hk : okR kb) (n : Int) (c : Int)
    (hc : (kb = none ∧ c = 41) ∨ (kb ≠ none ∧ n < 1 ∧ c = 43) ∨ (kb ≠ none ∧ 1 ≤ n ∧ 1099511627776 < n ∧ c = 43)) :
    Calls Try.prog 33 #[.pointer (some ⟨T, 0, none⟩), .agg #[.float .f64 lo, .float .f64 hi, .bool a, .bool b], .int .i64 n] w (PutRet w B T v most (c, its)) := by
  have hT := h.lt
  have hcan := fun W => canonG lo hi a b kb W hl hh hkb
  have HS := fun W (hq : TabAt W B T v most its) => vSearch_any kb hk hq.own hq.len hr
  have fin : ∀ e w', Ret (.int .i64 c) w e w' → PutRet w B T v most (c, its) e w' := fun e w' ⟨h1, h2⟩ => ⟨v, h1, h.below h2, Upd.of_below h2 T v⟩
  refine Calls.mono ?_ fin
  clear fin
  obtain ⟨va, vc, rfl⟩ := own_slice h.own
  have hemp := fun W => empty_is (slo kb) (shi kb) (sop kb) (sop kb) kb.isNone W (slo_lt kb) (shi_lt kb) (hid (by rw [canonS_gen hk]))
  have hc' : (kb.isNone = true ∧ c = 41) ∨ (kb.isNone = false ∧ n < 1 ∧ c = 43) ∨ (kb.isNone = false ∧ 1 ≤ n ∧ 1099511627776 < n ∧ c = 43) := by
    rcases kb with _ | ⟨l, h'⟩
    · rcases hc with h1 | h1 | h1
      · exact .inl ⟨rfl, h1.2⟩
      · exact absurd rfl h1.1
      · exact absurd rfl h1.1
    · rcases hc with h1 | h1 | h1
      · cases h1.1
      · exact .inr (.inl ⟨rfl, h1.2⟩)
      · exact .inr (.inr ⟨rfl, h1.2⟩)
  clear hc
  generalize kb.isNone = em at *
  generalize plcI its kb = p at *
  generalize plcB its kb = q at *
  generalize slo kb = x0 at *
  generalize shi kb = x1 at *
  generalize sop kb = x2 at *
  rcases hc' with ⟨rfl, rfl⟩ | ⟨rfl, h2, rfl⟩ | ⟨rfl, h2, h3, rfl⟩
  all_goals
    go_enter Try.func33, Try.ntmps33
    go_wp2_with (go_at_call 39; (with_reducible refine (hcan _).mono ?_); rintro e w1 ⟨rfl, hb1⟩; obtain ⟨hc1, hf1⟩ := bcell hb1; (try simp only [World.heap_drewN, World.cell?_drewN, World.frozen?_drewN] at hc1 hf1); have hz1 := hb1.size; (try simp at hz1); (try have hy1_0 : w.heap.size < w1.heap.size := by omega); (try have hy1_1 : w.heap.size + 1 < w1.heap.size := by omega); (try have hy1_2 : w.heap.size + 2 < w1.heap.size := by omega); (try have hy1_3 : w.heap.size + 3 < w1.heap.size := by omega); (try have hx1_0 : w.heap.size ≤ w1.heap.size := by omega); (try have hx1_1 : w.heap.size + 1 ≤ w1.heap.size := by omega); (try have hx1_2 : w.heap.size + 2 ≤ w1.heap.size := by omega))
    (generalize hW2 : World.setCell _ _ _ = w2; have hB2 : Below w.heap.size w w2 := (by rw [← hW2]; (repeat (first | with_reducible exact Below.refl _ _ | ((with_reducible refine Below.alloc1 ?_ ?_ _); (· first | omega | (simp; done) | (simp; omega))) | (with_reducible refine Below.drew ?_) | (with_reducible refine below_drewN' ?_ _) | ((with_reducible refine Below.setCell1 ?_ ?_ _); (· first | omega | (simp; done) | (simp; omega))) | ((with_reducible refine Below.after (by assumption) ?_ ?_); (· first | omega | (simp; done) | (simp; omega)))))); have hS2 := congrArg (fun W => W.heap.size) hW2.symm; simp [go_sem] at hS2; have cc2_0_0 := congrArg (fun W => W.cell? ⟨w.heap.size, 0, none⟩) hW2.symm; have cf2_0_0 := congrArg (fun W => W.frozen? ⟨w.heap.size, 0, none⟩) hW2.symm; have cc2_0_1 := congrArg (fun W => W.cell? ⟨w.heap.size, 1, none⟩) hW2.symm; have cf2_0_1 := congrArg (fun W => W.frozen? ⟨w.heap.size, 1, none⟩) hW2.symm; have cc2_0_2 := congrArg (fun W => W.cell? ⟨w.heap.size, 2, none⟩) hW2.symm; have cf2_0_2 := congrArg (fun W => W.frozen? ⟨w.heap.size, 2, none⟩) hW2.symm; have cc2_0_3 := congrArg (fun W => W.cell? ⟨w.heap.size, 3, none⟩) hW2.symm; have cf2_0_3 := congrArg (fun W => W.frozen? ⟨w.heap.size, 3, none⟩) hW2.symm; clear hW2; simp [go_sem, *] at cc2_0_0; simp [go_sem, *] at cf2_0_0; simp [go_sem, *] at cc2_0_1; simp [go_sem, *] at cf2_0_1; simp [go_sem, *] at cc2_0_2; simp [go_sem, *] at cf2_0_2; simp [go_sem, *] at cc2_0_3; simp [go_sem, *] at cf2_0_3; (try have hw2_0 : w.heap.size < w2.heap.size := by omega); (try have hw2_1 : w.heap.size + 1 < w2.heap.size := by omega); (try have hw2_2 : w.heap.size + 1 + 1 < w2.heap.size := by omega); (try have hw2_3 : w.heap.size + 1 + 1 + 1 < w2.heap.size := by omega); clear hS2)
    have h2 := h.below hB2
    have c1 := cell_row h2.tab 1
    simp at c1
    have hT2 := h2.lt
    have hz2 := hB2.size
    (refine wp_region_ext (by kernel_rfl) (by kernel_rfl) ?_; (repeat (go_big_quiet_step (first | (go_at_call 62; with_reducible exact Calls.ext_of (HS _ (TabAt.below (TabAt.below h2 (by (repeat (first | with_reducible exact Below.refl _ _ | ((with_reducible refine Below.alloc1 ?_ ?_ _); (· first | omega | (simp; done) | (simp; omega))) | (with_reducible refine Below.drew ?_) | (with_reducible refine below_drewN' ?_ _) | ((with_reducible refine Below.setCell1 ?_ ?_ _); (· first | omega | (simp; done) | (simp; omega))) | ((with_reducible refine Below.after (by assumption) ?_ ?_); (· first | omega | (simp; done) | (simp; omega))))))) (Ext.b _))))))); refine wpQuiet_nil ?_; rintro w3 ⟨x3, hx3⟩; have hb3 := x3.b; rw [← hx3] at hb3; clear hx3 x3; obtain ⟨hc3, hf3⟩ := bcell hb3; (try simp only [World.heap_drewN, World.cell?_drewN, World.frozen?_drewN] at hc3 hf3); have hz3 := hb3.size; (try simp at hz3); (try have hy3_0 : w.heap.size < w3.heap.size := by omega); (try have hy3_1 : w.heap.size + 1 < w3.heap.size := by omega); (try have hy3_2 : w.heap.size + 2 < w3.heap.size := by omega); (try have hy3_3 : w.heap.size + 3 < w3.heap.size := by omega); (try have hx3_0 : w.heap.size ≤ w3.heap.size := by omega); (try have hx3_1 : w.heap.size + 1 ≤ w3.heap.size := by omega); (try have hx3_2 : w.heap.size + 2 ≤ w3.heap.size := by omega))
    go_wp2_with (go_at_call 48; (with_reducible refine (hemp _).mono ?_); rintro e w4 ⟨rfl, hb4⟩; obtain ⟨hc4, hf4⟩ := bcell hb4; (try simp only [World.heap_drewN, World.cell?_drewN, World.frozen?_drewN] at hc4 hf4); have hz4 := hb4.size; (try simp at hz4); (try have hy4_0 : w.heap.size < w4.heap.size := by omega); (try have hy4_1 : w.heap.size + 1 < w4.heap.size := by omega); (try have hy4_2 : w.heap.size + 2 < w4.heap.size := by omega); (try have hy4_3 : w.heap.size + 3 < w4.heap.size := by omega); (try have hx4_0 : w.heap.size ≤ w4.heap.size := by omega); (try have hx4_1 : w.heap.size + 1 ≤ w4.heap.size := by omega); (try have hx4_2 : w.heap.size + 2 ≤ w4.heap.size := by omega))
    go_ret
    exact ⟨rfl, by (repeat (first | with_reducible exact Below.refl _ _ | ((with_reducible refine Below.alloc1 ?_ ?_ _); (· first | omega | (simp; done) | (simp; omega))) | (with_reducible refine Below.drew ?_) | (with_reducible refine below_drewN' ?_ _) | ((with_reducible refine Below.setCell1 ?_ ?_ _); (· first | omega | (simp; done) | (simp; omega))) | ((with_reducible refine Below.after (by assumption) ?_ ?_); (· first | omega | (simp; done) | (simp; omega)))))⟩

set_option maxRecDepth 100000 in
theorem tabPut_set {w : World} {B T : Nat} {v : Value} {most : Int} {its : List ItV} (h : TabAt w B T v most its) (hr : rises its) (lo hi : Nat) (a b : Bool) (kb : Rg) (hl : lo < 2 ^ 64) (hh : hi < 2 ^ 64) (hkb : Hid (canonS lo hi a b = kb)) (hk : okR kb) (n : Int) (h1 : kb ≠ none) (hn2 : 1 ≤ n) (hn3 : n ≤ 1099511627776) (hq : plcB its kb = true) :
    Calls Try.prog 33 #[.pointer (some ⟨T, 0, none⟩), .agg #[.float .f64 lo, .float .f64 hi, .bool a, .bool b], .int .i64 n] w (PutRet w B T v most (0, its.set (plcI its kb) ⟨(its[plcI its kb]?.getD default).k, max (its[plcI its kb]?.getD default).n n⟩)) := by
  have hT := h.lt
  have hcan := fun W => canonG lo hi a b kb W hl hh hkb
  have HS := fun W (hq : TabAt W B T v most its) => vSearch_any kb hk hq.own hq.len hr
  have hemp := fun W => empty_is (slo kb) (shi kb) (sop kb) (sop kb) false W (slo_lt kb) (shi_lt kb) (hid (by rw [canonS_gen hk]; cases kb; exact absurd rfl h1; rfl))
  have hp := plcB_lt hq
  rw [hq] at HS
  have hset := itCells_setn its (plcI its kb) (max (its[plcI its kb]?.getD default).n n) hp
  generalize plcI its kb = p at *
  generalize hx : its[p]?.getD default = x at *
  have HX := hid hx
  have HR := hid hr
  have H1 := hid h1
  have hn2' : ¬ n < 1 := by omega
  have hn3' : ¬ 1099511627776 < n := by omega
  obtain ⟨va, vc, rfl⟩ := own_slice h.own
  clear hx hq hr h1
  generalize slo kb = x0 at *
  generalize shi kb = x1 at *
  generalize sop kb = x2 at *
  go_enter Try.func33, Try.ntmps33
  go_wp2_with (go_at_call 39; (with_reducible refine (hcan _).mono ?_); rintro e w1 ⟨rfl, hb1⟩; obtain ⟨hc1, hf1⟩ := bcell hb1; (try simp only [World.heap_drewN, World.cell?_drewN, World.frozen?_drewN] at hc1 hf1); have hz1 := hb1.size; (try simp at hz1); (try have hy1_0 : w.heap.size < w1.heap.size := by omega); (try have hy1_1 : w.heap.size + 1 < w1.heap.size := by omega); (try have hy1_2 : w.heap.size + 2 < w1.heap.size := by omega); (try have hy1_3 : w.heap.size + 3 < w1.heap.size := by omega); (try have hx1_0 : w.heap.size ≤ w1.heap.size := by omega); (try have hx1_1 : w.heap.size + 1 ≤ w1.heap.size := by omega); (try have hx1_2 : w.heap.size + 2 ≤ w1.heap.size := by omega))
  (generalize hW2 : World.setCell _ _ _ = w2; have hB2 : Below w.heap.size w w2 := (by rw [← hW2]; (repeat (first | with_reducible exact Below.refl _ _ | ((with_reducible refine Below.alloc1 ?_ ?_ _); (· first | omega | (simp; done) | (simp; omega))) | (with_reducible refine Below.drew ?_) | (with_reducible refine below_drewN' ?_ _) | ((with_reducible refine Below.setCell1 ?_ ?_ _); (· first | omega | (simp; done) | (simp; omega))) | ((with_reducible refine Below.after (by assumption) ?_ ?_); (· first | omega | (simp; done) | (simp; omega)))))); have hS2 := congrArg (fun W => W.heap.size) hW2.symm; simp [go_sem] at hS2; have cc2_0_0 := congrArg (fun W => W.cell? ⟨w.heap.size, 0, none⟩) hW2.symm; have cf2_0_0 := congrArg (fun W => W.frozen? ⟨w.heap.size, 0, none⟩) hW2.symm; have cc2_0_1 := congrArg (fun W => W.cell? ⟨w.heap.size, 1, none⟩) hW2.symm; have cf2_0_1 := congrArg (fun W => W.frozen? ⟨w.heap.size, 1, none⟩) hW2.symm; have cc2_0_2 := congrArg (fun W => W.cell? ⟨w.heap.size, 2, none⟩) hW2.symm; have cf2_0_2 := congrArg (fun W => W.frozen? ⟨w.heap.size, 2, none⟩) hW2.symm; have cc2_0_3 := congrArg (fun W => W.cell? ⟨w.heap.size, 3, none⟩) hW2.symm; have cf2_0_3 := congrArg (fun W => W.frozen? ⟨w.heap.size, 3, none⟩) hW2.symm; clear hW2; simp [go_sem, *] at cc2_0_0; simp [go_sem, *] at cf2_0_0; simp [go_sem, *] at cc2_0_1; simp [go_sem, *] at cf2_0_1; simp [go_sem, *] at cc2_0_2; simp [go_sem, *] at cf2_0_2; simp [go_sem, *] at cc2_0_3; simp [go_sem, *] at cf2_0_3; (try have hw2_0 : w.heap.size < w2.heap.size := by omega); (try have hw2_1 : w.heap.size + 1 < w2.heap.size := by omega); (try have hw2_2 : w.heap.size + 1 + 1 < w2.heap.size := by omega); (try have hw2_3 : w.heap.size + 1 + 1 + 1 < w2.heap.size := by omega); clear hS2)
  have h2 := h.below hB2
  have c1 := cell_row h2.tab 1
  simp at c1
  have hT2 := h2.lt
  have hz2 := hB2.size
  (refine wp_region_ext (by kernel_rfl) (by kernel_rfl) ?_; (repeat (go_big_quiet_step (first | (go_at_call 62; with_reducible exact Calls.ext_of (HS _ (TabAt.below (TabAt.below h2 (by (repeat (first | with_reducible exact Below.refl _ _ | ((with_reducible refine Below.alloc1 ?_ ?_ _); (· first | omega | (simp; done) | (simp; omega))) | (with_reducible refine Below.drew ?_) | (with_reducible refine below_drewN' ?_ _) | ((with_reducible refine Below.setCell1 ?_ ?_ _); (· first | omega | (simp; done) | (simp; omega))) | ((with_reducible refine Below.after (by assumption) ?_ ?_); (· first | omega | (simp; done) | (simp; omega))))))) (Ext.b _))))))); refine wpQuiet_nil ?_; rintro w3 ⟨x3, hx3⟩; have hb3 := x3.b; rw [← hx3] at hb3; clear hx3 x3; obtain ⟨hc3, hf3⟩ := bcell hb3; (try simp only [World.heap_drewN, World.cell?_drewN, World.frozen?_drewN] at hc3 hf3); have hz3 := hb3.size; (try simp at hz3); (try have hy3_0 : w.heap.size < w3.heap.size := by omega); (try have hy3_1 : w.heap.size + 1 < w3.heap.size := by omega); (try have hy3_2 : w.heap.size + 2 < w3.heap.size := by omega); (try have hy3_3 : w.heap.size + 3 < w3.heap.size := by omega); (try have hx3_0 : w.heap.size ≤ w3.heap.size := by omega); (try have hx3_1 : w.heap.size + 1 ≤ w3.heap.size := by omega); (try have hx3_2 : w.heap.size + 2 ≤ w3.heap.size := by omega))
  go_wp2_with fail
  ((with_reducible refine (hemp _).mono ?_); rintro e w4 ⟨rfl, hb4⟩; obtain ⟨hc4, hf4⟩ := bcell hb4; (try simp only [World.heap_drewN, World.cell?_drewN, World.frozen?_drewN] at hc4 hf4); have hz4 := hb4.size; (try simp at hz4); (try have hy4_0 : w.heap.size < w4.heap.size := by omega); (try have hy4_1 : w.heap.size + 1 < w4.heap.size := by omega); (try have hy4_2 : w.heap.size + 2 < w4.heap.size := by omega); (try have hy4_3 : w.heap.size + 3 < w4.heap.size := by omega); (try have hx4_0 : w.heap.size ≤ w4.heap.size := by omega); (try have hx4_1 : w.heap.size + 1 ≤ w4.heap.size := by omega); (try have hx4_2 : w.heap.size + 2 ≤ w4.heap.size := by omega))
  have hb34 : Below w3.heap.size w3 w4 := by (repeat (first | with_reducible exact Below.refl _ _ | ((with_reducible refine Below.alloc1 ?_ ?_ _); (· first | omega | (simp; done) | (simp; omega))) | (with_reducible refine Below.drew ?_) | (with_reducible refine below_drewN' ?_ _) | ((with_reducible refine Below.setCell1 ?_ ?_ _); (· first | omega | (simp; done) | (simp; omega))) | ((with_reducible refine Below.after (by assumption) ?_ ?_); (· first | omega | (simp; done) | (simp; omega)))))
  have hb24 : Below w2.heap.size w2 w4 := by (repeat (first | with_reducible exact Below.refl _ _ | ((with_reducible refine Below.alloc1 ?_ ?_ _); (· first | omega | (simp; done) | (simp; omega))) | (with_reducible refine Below.drew ?_) | (with_reducible refine below_drewN' ?_ _) | ((with_reducible refine Below.setCell1 ?_ ?_ _); (· first | omega | (simp; done) | (simp; omega))) | ((with_reducible refine Below.after (by assumption) ?_ ?_); (· first | omega | (simp; done) | (simp; omega)))))
  have h4 := (h2.below hb24)
  have hub := Upd.of_below (hB2.trans (hb24.mono hz2)) T (.slice va its.length vc)
  clear hc3 hf3 hb3 hc4 hf4 hb4 hb34 hb24 hB2 h2 h
  have c1 := cell_row h4.tab 1
  simp at c1
  have hT4 := h4.lt
  have hown := h4.own
  rcases hown.2 with ⟨hv0, h0⟩ | ⟨g, cap, cur, hv0, hbg, hg, hnc, hcm, hcs, htake⟩
  · omega
  · obtain ⟨rfl, rfl⟩ : va = some ⟨g, 0, none⟩ ∧ vc = cap := by cases hv0; exact ⟨rfl, rfl⟩
    have hgl := (Array.getElem?_eq_some_iff.1 hg).1
    obtain ⟨_, _, _, _, d4⟩ := own_cells hown rfl _ hp
    rw [HX.out] at d4
    have f4 : w4.frozen? ⟨g, p * 5 + 4, none⟩ = false := by simp [World.frozen?, hg]
    have hlen := h4.len
    have hp' : (p : Int) < (its.length : Int) := by omega
    have hgT : g ≠ T := fun e => h4.apart (by rw [e]; rfl)
    have fin : PutRet w B T (.slice (some ⟨g, 0, none⟩) its.length vc) most (0, its.set p ⟨x.k, max x.n n⟩) (.returned (.int .i64 0)) (w4.drew.setCell ⟨g, p * 5 + 4, none⟩ (.int .i64 (max x.n n))) := by
      have hown2 : w4.drew.ownsRow B 70 5 (.slice (some ⟨g, 0, none⟩) its.length vc) its.length (itCells its) := hown
      obtain ⟨s1, s2⟩ := hown2.stored (p * 5 + 4) (.int .i64 (max x.n n))
      refine ⟨.slice (some ⟨g, 0, none⟩) its.length vc, rfl, ⟨?_, ?_, h4.apart, h4.low, by simpa using hlen⟩, ⟨?_, ?_, ?_, ?_, ?_, .inl rfl⟩⟩
      · rw [s2.block T hT4 (by simp; omega)]; exact h4.tab
      · rw [List.length_set, hset]; exact s1
      · exact s2.os.trans hub.os
      · exact s2.tape.trans hub.tape
      · exact s2.output.trans hub.output
      · exact Nat.le_trans hub.size s2.size
      · intro k hk hkT hkv
        have := hub.size
        exact (s2.block k (by show k < w4.heap.size; omega) hkv).trans (hub.block k hk hkT hkv)
    have hfin := hid fin
    clear fin hset h4 hub hown hg hcs htake
    go_wp2_with fail
    go_still_tail 15, (by kernel_rfl)
    change wpList _ _ _ _ _ w4.drew
    go_wp2
    go_ret
    exact hfin.out

set_option maxRecDepth 100000 in
theorem tabPut_full {w : World} {B T : Nat} {v : Value} {most : Int} {its : List ItV} (h : TabAt w B T v most its) (hr : rises its) (lo hi : Nat) (a b : Bool) (kb : Rg) (hl : lo < 2 ^ 64) (hh : hi < 2 ^ 64) (hkb : Hid (canonS lo hi a b = kb)) (hk : okR kb) (n : Int) (h1 : kb ≠ none) (hn2 : 1 ≤ n) (hn3 : n ≤ 1099511627776) (hq : plcB its kb = false) (hm : (its.length : Int) = most) :
    Calls Try.prog 33 #[.pointer (some ⟨T, 0, none⟩), .agg #[.float .f64 lo, .float .f64 hi, .bool a, .bool b], .int .i64 n] w (PutRet w B T v most (3, its)) := by
  have hT := h.lt
  have hcan := fun W => canonG lo hi a b kb W hl hh hkb
  have HS := fun W (hq : TabAt W B T v most its) => vSearch_any kb hk hq.own hq.len hr
  have hemp := fun W => empty_is (slo kb) (shi kb) (sop kb) (sop kb) false W (slo_lt kb) (shi_lt kb) (hid (by rw [canonS_gen hk]; cases kb; exact absurd rfl h1; rfl))
  rw [hq] at HS
  have fin : ∀ e w', Ret (.int .i64 3) w e w' → PutRet w B T v most (3, its) e w' := fun e w' ⟨h1, h2⟩ => ⟨v, h1, h.below h2, Upd.of_below h2 T v⟩
  refine Calls.mono ?_ fin
  clear fin
  generalize plcI its kb = p at *
  have HR := hid hr
  have H1 := hid h1
  have hn2' : ¬ n < 1 := by omega
  have hn3' : ¬ 1099511627776 < n := by omega
  obtain ⟨va, vc, rfl⟩ := own_slice h.own
  clear hq hr h1
  generalize slo kb = x0 at *
  generalize shi kb = x1 at *
  generalize sop kb = x2 at *
  go_enter Try.func33, Try.ntmps33
  go_wp2_with (go_at_call 39; (with_reducible refine (hcan _).mono ?_); rintro e w1 ⟨rfl, hb1⟩; obtain ⟨hc1, hf1⟩ := bcell hb1; (try simp only [World.heap_drewN, World.cell?_drewN, World.frozen?_drewN] at hc1 hf1); have hz1 := hb1.size; (try simp at hz1); (try have hy1_0 : w.heap.size < w1.heap.size := by omega); (try have hy1_1 : w.heap.size + 1 < w1.heap.size := by omega); (try have hy1_2 : w.heap.size + 2 < w1.heap.size := by omega); (try have hy1_3 : w.heap.size + 3 < w1.heap.size := by omega); (try have hx1_0 : w.heap.size ≤ w1.heap.size := by omega); (try have hx1_1 : w.heap.size + 1 ≤ w1.heap.size := by omega); (try have hx1_2 : w.heap.size + 2 ≤ w1.heap.size := by omega))
  (generalize hW2 : World.setCell _ _ _ = w2; have hB2 : Below w.heap.size w w2 := (by rw [← hW2]; (repeat (first | with_reducible exact Below.refl _ _ | ((with_reducible refine Below.alloc1 ?_ ?_ _); (· first | omega | (simp; done) | (simp; omega))) | (with_reducible refine Below.drew ?_) | (with_reducible refine below_drewN' ?_ _) | ((with_reducible refine Below.setCell1 ?_ ?_ _); (· first | omega | (simp; done) | (simp; omega))) | ((with_reducible refine Below.after (by assumption) ?_ ?_); (· first | omega | (simp; done) | (simp; omega)))))); have hS2 := congrArg (fun W => W.heap.size) hW2.symm; simp [go_sem] at hS2; have cc2_0_0 := congrArg (fun W => W.cell? ⟨w.heap.size, 0, none⟩) hW2.symm; have cf2_0_0 := congrArg (fun W => W.frozen? ⟨w.heap.size, 0, none⟩) hW2.symm; have cc2_0_1 := congrArg (fun W => W.cell? ⟨w.heap.size, 1, none⟩) hW2.symm; have cf2_0_1 := congrArg (fun W => W.frozen? ⟨w.heap.size, 1, none⟩) hW2.symm; have cc2_0_2 := congrArg (fun W => W.cell? ⟨w.heap.size, 2, none⟩) hW2.symm; have cf2_0_2 := congrArg (fun W => W.frozen? ⟨w.heap.size, 2, none⟩) hW2.symm; have cc2_0_3 := congrArg (fun W => W.cell? ⟨w.heap.size, 3, none⟩) hW2.symm; have cf2_0_3 := congrArg (fun W => W.frozen? ⟨w.heap.size, 3, none⟩) hW2.symm; clear hW2; simp [go_sem, *] at cc2_0_0; simp [go_sem, *] at cf2_0_0; simp [go_sem, *] at cc2_0_1; simp [go_sem, *] at cf2_0_1; simp [go_sem, *] at cc2_0_2; simp [go_sem, *] at cf2_0_2; simp [go_sem, *] at cc2_0_3; simp [go_sem, *] at cf2_0_3; (try have hw2_0 : w.heap.size < w2.heap.size := by omega); (try have hw2_1 : w.heap.size + 1 < w2.heap.size := by omega); (try have hw2_2 : w.heap.size + 1 + 1 < w2.heap.size := by omega); (try have hw2_3 : w.heap.size + 1 + 1 + 1 < w2.heap.size := by omega); clear hS2)
  have h2 := h.below hB2
  have c1 := cell_row h2.tab 1
  simp at c1
  have hT2 := h2.lt
  have hz2 := hB2.size
  (refine wp_region_ext (by kernel_rfl) (by kernel_rfl) ?_; (repeat (go_big_quiet_step (first | (go_at_call 62; with_reducible exact Calls.ext_of (HS _ (TabAt.below (TabAt.below h2 (by (repeat (first | with_reducible exact Below.refl _ _ | ((with_reducible refine Below.alloc1 ?_ ?_ _); (· first | omega | (simp; done) | (simp; omega))) | (with_reducible refine Below.drew ?_) | (with_reducible refine below_drewN' ?_ _) | ((with_reducible refine Below.setCell1 ?_ ?_ _); (· first | omega | (simp; done) | (simp; omega))) | ((with_reducible refine Below.after (by assumption) ?_ ?_); (· first | omega | (simp; done) | (simp; omega))))))) (Ext.b _))))))); refine wpQuiet_nil ?_; rintro w3 ⟨x3, hx3⟩; have hb3 := x3.b; rw [← hx3] at hb3; clear hx3 x3; obtain ⟨hc3, hf3⟩ := bcell hb3; (try simp only [World.heap_drewN, World.cell?_drewN, World.frozen?_drewN] at hc3 hf3); have hz3 := hb3.size; (try simp at hz3); (try have hy3_0 : w.heap.size < w3.heap.size := by omega); (try have hy3_1 : w.heap.size + 1 < w3.heap.size := by omega); (try have hy3_2 : w.heap.size + 2 < w3.heap.size := by omega); (try have hy3_3 : w.heap.size + 3 < w3.heap.size := by omega); (try have hx3_0 : w.heap.size ≤ w3.heap.size := by omega); (try have hx3_1 : w.heap.size + 1 ≤ w3.heap.size := by omega); (try have hx3_2 : w.heap.size + 2 ≤ w3.heap.size := by omega))
  go_wp2_with fail
  ((with_reducible refine (hemp _).mono ?_); rintro e w4 ⟨rfl, hb4⟩; obtain ⟨hc4, hf4⟩ := bcell hb4; (try simp only [World.heap_drewN, World.cell?_drewN, World.frozen?_drewN] at hc4 hf4); have hz4 := hb4.size; (try simp at hz4); (try have hy4_0 : w.heap.size < w4.heap.size := by omega); (try have hy4_1 : w.heap.size + 1 < w4.heap.size := by omega); (try have hy4_2 : w.heap.size + 2 < w4.heap.size := by omega); (try have hy4_3 : w.heap.size + 3 < w4.heap.size := by omega); (try have hx4_0 : w.heap.size ≤ w4.heap.size := by omega); (try have hx4_1 : w.heap.size + 1 ≤ w4.heap.size := by omega); (try have hx4_2 : w.heap.size + 2 ≤ w4.heap.size := by omega))
  have hb24 : Below w2.heap.size w2 w4 := by (repeat (first | with_reducible exact Below.refl _ _ | ((with_reducible refine Below.alloc1 ?_ ?_ _); (· first | omega | (simp; done) | (simp; omega))) | (with_reducible refine Below.drew ?_) | (with_reducible refine below_drewN' ?_ _) | ((with_reducible refine Below.setCell1 ?_ ?_ _); (· first | omega | (simp; done) | (simp; omega))) | ((with_reducible refine Below.after (by assumption) ?_ ?_); (· first | omega | (simp; done) | (simp; omega)))))
  have h4 := (h2.below hb24)
  have hb04 : Below w.heap.size w w4 := hB2.trans (hb24.mono hz2)
  clear hc3 hf3 hb3 hc4 hf4 hb4 hb24 hB2 h2 h
  have c0 := cell_row h4.tab 0
  have c1 := cell_row h4.tab 1
  simp at c0 c1
  have hT4 := h4.lt
  generalize its.length = m at *
  subst hm
  go_wp2_with fail
  go_quiet (fail)
  go_wp2
  go_ret
  exact ⟨rfl, by (repeat (first | with_reducible exact Below.refl _ _ | ((with_reducible refine Below.alloc1 ?_ ?_ _); (· first | omega | (simp; done) | (simp; omega))) | (with_reducible refine Below.drew ?_) | (with_reducible refine below_drewN' ?_ _) | ((with_reducible refine Below.setCell1 ?_ ?_ _); (· first | omega | (simp; done) | (simp; omega))) | ((with_reducible refine Below.after (by assumption) ?_ ?_); (· first | omega | (simp; done) | (simp; omega)))))⟩

set_option maxHeartbeats 1000000 in
set_option maxRecDepth 100000 in
theorem tabPut_ins {w : World} {B T : Nat} {v : Value} {most : Int} {its : List ItV} (h : TabAt w B T v most its) (hr : rises its) (lo hi : Nat) (a b : Bool) (kb : Rg) (hl : lo < 2 ^ 64) (hh : hi < 2 ^ 64) (hkb : Hid (canonS lo hi a b = kb)) (hk : okR kb) (n : Int) (h1 : kb ≠ none) (hn2 : 1 ≤ n) (hn3 : n ≤ 1099511627776) (hB : B ≤ w.heap.size) (hq : plcB its kb = false) (hm : (its.length : Int) ≠ most) (hl64 : its.length < 64) :
    Calls Try.prog 33 #[.pointer (some ⟨T, 0, none⟩), .agg #[.float .f64 lo, .float .f64 hi, .bool a, .bool b], .int .i64 n] w (PutRet w B T v most (0, its.take (plcI its kb) ++ [⟨keyR kb, n⟩] ++ its.drop (plcI its kb))) := by
  have hT := h.lt
  have hcan := fun W => canonG lo hi a b kb W hl hh hkb
  have HS := fun W (hq : TabAt W B T v most its) => vSearch_any kb hk hq.own hq.len hr
  have hemp := fun W => empty_is (slo kb) (shi kb) (sop kb) (sop kb) false W (slo_lt kb) (shi_lt kb) (hid (by rw [canonS_gen hk]; cases kb; exact absurd rfl h1; rfl))
  rw [hq] at HS
  have hple := plcI_le its kb
  generalize plcI its kb = p at *
  have HR := hid hr
  have H1 := hid h1
  have hm' : ((its.length : Int) == most) = false := by simp; exact hm
  have hn2' : ¬ n < 1 := by omega
  have hn3' : ¬ 1099511627776 < n := by omega
  obtain ⟨va, vc, rfl⟩ := own_slice h.own
  have HK0 := hid (keyR_lo hk h1)
  have HK1 := hid (keyR_hi hk h1)
  have hop := sop_some h1
  rw [hop] at hcan HS hemp
  clear hq hr h1 hop hm
  generalize slo kb = x0 at *
  generalize shi kb = x1 at *
  go_enter Try.func33, Try.ntmps33
  go_wp2_with (go_at_call 39; (with_reducible refine (hcan _).mono ?_); rintro e w1 ⟨rfl, hb1⟩; obtain ⟨hc1, hf1⟩ := bcell hb1; (try simp only [World.heap_drewN, World.cell?_drewN, World.frozen?_drewN] at hc1 hf1); have hz1 := hb1.size; (try simp at hz1); (try have hy1_0 : w.heap.size < w1.heap.size := by omega); (try have hy1_1 : w.heap.size + 1 < w1.heap.size := by omega); (try have hy1_2 : w.heap.size + 2 < w1.heap.size := by omega); (try have hy1_3 : w.heap.size + 3 < w1.heap.size := by omega); (try have hx1_0 : w.heap.size ≤ w1.heap.size := by omega); (try have hx1_1 : w.heap.size + 1 ≤ w1.heap.size := by omega); (try have hx1_2 : w.heap.size + 2 ≤ w1.heap.size := by omega))
  (generalize hW2 : World.setCell _ _ _ = w2; have hB2 : Below w.heap.size w w2 := (by rw [← hW2]; (repeat (first | with_reducible exact Below.refl _ _ | ((with_reducible refine Below.alloc1 ?_ ?_ _); (· first | omega | (simp; done) | (simp; omega))) | (with_reducible refine Below.drew ?_) | (with_reducible refine below_drewN' ?_ _) | ((with_reducible refine Below.setCell1 ?_ ?_ _); (· first | omega | (simp; done) | (simp; omega))) | ((with_reducible refine Below.after (by assumption) ?_ ?_); (· first | omega | (simp; done) | (simp; omega)))))); have hS2 := congrArg (fun W => W.heap.size) hW2.symm; simp [go_sem] at hS2; have cc2_0_0 := congrArg (fun W => W.cell? ⟨w.heap.size, 0, none⟩) hW2.symm; have cf2_0_0 := congrArg (fun W => W.frozen? ⟨w.heap.size, 0, none⟩) hW2.symm; have cc2_0_1 := congrArg (fun W => W.cell? ⟨w.heap.size, 1, none⟩) hW2.symm; have cf2_0_1 := congrArg (fun W => W.frozen? ⟨w.heap.size, 1, none⟩) hW2.symm; have cc2_0_2 := congrArg (fun W => W.cell? ⟨w.heap.size, 2, none⟩) hW2.symm; have cf2_0_2 := congrArg (fun W => W.frozen? ⟨w.heap.size, 2, none⟩) hW2.symm; have cc2_0_3 := congrArg (fun W => W.cell? ⟨w.heap.size, 3, none⟩) hW2.symm; have cf2_0_3 := congrArg (fun W => W.frozen? ⟨w.heap.size, 3, none⟩) hW2.symm; clear hW2; simp [go_sem, *] at cc2_0_0; simp [go_sem, *] at cf2_0_0; simp [go_sem, *] at cc2_0_1; simp [go_sem, *] at cf2_0_1; simp [go_sem, *] at cc2_0_2; simp [go_sem, *] at cf2_0_2; simp [go_sem, *] at cc2_0_3; simp [go_sem, *] at cf2_0_3; (try have hw2_0 : w.heap.size < w2.heap.size := by omega); (try have hw2_1 : w.heap.size + 1 < w2.heap.size := by omega); (try have hw2_2 : w.heap.size + 1 + 1 < w2.heap.size := by omega); (try have hw2_3 : w.heap.size + 1 + 1 + 1 < w2.heap.size := by omega); clear hS2)
  have h2 := h.below hB2
  have c1 := cell_row h2.tab 1
  simp at c1
  have hT2 := h2.lt
  have hz2 := hB2.size
  (refine wp_region_ext (by kernel_rfl) (by kernel_rfl) ?_; (repeat (go_big_quiet_step (first | (go_at_call 62; with_reducible exact Calls.ext_of (HS _ (TabAt.below (TabAt.below h2 (by (repeat (first | with_reducible exact Below.refl _ _ | ((with_reducible refine Below.alloc1 ?_ ?_ _); (· first | omega | (simp; done) | (simp; omega))) | (with_reducible refine Below.drew ?_) | (with_reducible refine below_drewN' ?_ _) | ((with_reducible refine Below.setCell1 ?_ ?_ _); (· first | omega | (simp; done) | (simp; omega))) | ((with_reducible refine Below.after (by assumption) ?_ ?_); (· first | omega | (simp; done) | (simp; omega))))))) (Ext.b _))))))); refine wpQuiet_nil ?_; rintro w3 ⟨x3, hx3⟩; have hb3 := x3.b; rw [← hx3] at hb3; clear hx3 x3; obtain ⟨hc3, hf3⟩ := bcell hb3; (try simp only [World.heap_drewN, World.cell?_drewN, World.frozen?_drewN] at hc3 hf3); have hz3 := hb3.size; (try simp at hz3); (try have hy3_0 : w.heap.size < w3.heap.size := by omega); (try have hy3_1 : w.heap.size + 1 < w3.heap.size := by omega); (try have hy3_2 : w.heap.size + 2 < w3.heap.size := by omega); (try have hy3_3 : w.heap.size + 3 < w3.heap.size := by omega); (try have hx3_0 : w.heap.size ≤ w3.heap.size := by omega); (try have hx3_1 : w.heap.size + 1 ≤ w3.heap.size := by omega); (try have hx3_2 : w.heap.size + 2 ≤ w3.heap.size := by omega))
  go_wp2_with fail
  ((with_reducible refine (hemp _).mono ?_); rintro e w4 ⟨rfl, hb4⟩; obtain ⟨hc4, hf4⟩ := bcell hb4; (try simp only [World.heap_drewN, World.cell?_drewN, World.frozen?_drewN] at hc4 hf4); have hz4 := hb4.size; (try simp at hz4); (try have hy4_0 : w.heap.size < w4.heap.size := by omega); (try have hy4_1 : w.heap.size + 1 < w4.heap.size := by omega); (try have hy4_2 : w.heap.size + 2 < w4.heap.size := by omega); (try have hy4_3 : w.heap.size + 3 < w4.heap.size := by omega); (try have hx4_0 : w.heap.size ≤ w4.heap.size := by omega); (try have hx4_1 : w.heap.size + 1 ≤ w4.heap.size := by omega); (try have hx4_2 : w.heap.size + 2 ≤ w4.heap.size := by omega))
  have hb24 : Below w2.heap.size w2 w4 := by (repeat (first | with_reducible exact Below.refl _ _ | ((with_reducible refine Below.alloc1 ?_ ?_ _); (· first | omega | (simp; done) | (simp; omega))) | (with_reducible refine Below.drew ?_) | (with_reducible refine below_drewN' ?_ _) | ((with_reducible refine Below.setCell1 ?_ ?_ _); (· first | omega | (simp; done) | (simp; omega))) | ((with_reducible refine Below.after (by assumption) ?_ ?_); (· first | omega | (simp; done) | (simp; omega)))))
  have h4 := (h2.below hb24)
  have hub := Upd.of_below (hB2.trans (hb24.mono hz2)) T (.slice va its.length vc)
  have hB4 : B ≤ w4.heap.size := Nat.le_trans hB (Nat.le_trans hz2 hb24.size)
  have hbx : w.heap.size < w4.heap.size := by omega
  have b0 : w4.cell? ⟨w.heap.size, 0, none⟩ = some (.float .f64 x0) := (hb24.cell (p := ⟨w.heap.size, 0, none⟩) (by assumption)).trans cc2_0_0
  have b1 : w4.cell? ⟨w.heap.size, 1, none⟩ = some (.float .f64 x1) := (hb24.cell (p := ⟨w.heap.size, 1, none⟩) (by assumption)).trans cc2_0_1
  have b2 : w4.cell? ⟨w.heap.size, 2, none⟩ = some (.bool false) := (hb24.cell (p := ⟨w.heap.size, 2, none⟩) (by assumption)).trans cc2_0_2
  have b3 : w4.cell? ⟨w.heap.size, 3, none⟩ = some (.bool false) := (hb24.cell (p := ⟨w.heap.size, 3, none⟩) (by assumption)).trans cc2_0_3
  clear hc3 hf3 hb3 hc4 hf4 hb4 hb24 hB2 h2 h cc2_0_0 cc2_0_1 cc2_0_2 cc2_0_3
  have c0 := cell_row h4.tab 0
  have c1 := cell_row h4.tab 1
  simp at c0 c1
  have hT4 := h4.lt
  have hvT : (Value.slice va its.length vc).ownBlock ≠ some T := h4.apart
  have hlow := h4.low
  go_wp2_with fail
  go_quiet (fail)
  rename_i nq
  go_wp2
  refine wp_region_notes_late [Note.val (.pointer (some ⟨T, 0, none⟩)), Note.val (.pointer (some ⟨T, 0, none⟩)), Note.val (.pointer (some ⟨T, 0, none⟩)), Note.val (.pointer (some ⟨T, 1, none⟩)), Note.val (.slice va its.length vc), Note.val (.int .i64 p), Note.val (.agg #[.float .f64 x0, .float .f64 x1, .bool false, .bool false]), Note.val (.int .i64 n), Note.val (.agg #[.float .f64 x0, .float .f64 x1, .bool false, .bool false, .int .i64 n]), Note.row 70 1 1 [.float .f64 x0, .float .f64 x1, .bool false, .bool false, .int .i64 n]] 0 rfl (by kernel_rfl) (by kernel_rfl) ?_ ?_ ?_
  · simp only [List.length_cons, List.length_nil, Nat.reduceAdd, List.take_succ_cons, List.take_zero, StepsN, List.nil_append, List.cons_append]
    refine ⟨?_, ?_, ?_, ?_, ?_, ?_, ?_, ?_, ?_, ?_, trivial⟩
    · intro u w5 hb5 hd
      obtain ⟨hc5, hf5⟩ := bcell hb5
      (try simp only [World.heap_drewN, World.cell?_drewN, World.frozen?_drewN] at hc5 hf5)
      have hz5 := hb5.size
      (try simp at hz5)
      (try have hy5_0 : w.heap.size < w5.heap.size := by omega)
      (try have hy5_1 : w.heap.size + 1 < w5.heap.size := by omega)
      (try have hy5_2 : w.heap.size + 2 < w5.heap.size := by omega)
      (try have hy5_3 : w.heap.size + 3 < w5.heap.size := by omega)
      (try have hx5_0 : w.heap.size ≤ w5.heap.size := by omega)
      (try have hx5_1 : w.heap.size + 1 ≤ w5.heap.size := by omega)
      (try have hx5_2 : w.heap.size + 2 ≤ w5.heap.size := by omega)
      (try (simp [Region.binds, Note.phi, cellsAre] at hd))
      revert hd
      (try simp only [putsFrom, Act.put, List.setIfInBounds_toArray, List.set_cons_zero, List.set_cons_succ, Nat.zero_add, Nat.reduceAdd])
      ((try simp only [forall_exists_index, and_imp]); intros)
      clear u
      go_wp2_with (first | fail)
      exact ⟨rfl, by (repeat (first | with_reducible exact Below.refl _ _ | ((with_reducible refine Below.alloc1 ?_ ?_ _); (· first | omega | (simp; done) | (simp; omega))) | (with_reducible refine Below.drew ?_) | (with_reducible refine below_drewN' ?_ _) | ((with_reducible refine Below.setCell1 ?_ ?_ _); (· first | omega | (simp; done) | (simp; omega))) | ((with_reducible refine Below.after (by assumption) ?_ ?_); (· first | omega | (simp; done) | (simp; omega))))), rfl⟩
    · intro u w5 hb5 hd
      obtain ⟨hc5, hf5⟩ := bcell hb5
      (try simp only [World.heap_drewN, World.cell?_drewN, World.frozen?_drewN] at hc5 hf5)
      have hz5 := hb5.size
      (try simp at hz5)
      (try have hy5_0 : w.heap.size < w5.heap.size := by omega)
      (try have hy5_1 : w.heap.size + 1 < w5.heap.size := by omega)
      (try have hy5_2 : w.heap.size + 2 < w5.heap.size := by omega)
      (try have hy5_3 : w.heap.size + 3 < w5.heap.size := by omega)
      (try have hx5_0 : w.heap.size ≤ w5.heap.size := by omega)
      (try have hx5_1 : w.heap.size + 1 ≤ w5.heap.size := by omega)
      (try have hx5_2 : w.heap.size + 2 ≤ w5.heap.size := by omega)
      (try (simp [Region.binds, Note.phi, cellsAre] at hd))
      revert hd
      (try simp only [putsFrom, Act.put, List.setIfInBounds_toArray, List.set_cons_zero, List.set_cons_succ, Nat.zero_add, Nat.reduceAdd])
      generalize u 0 = u0
      ((try simp only [forall_exists_index, and_imp]); intros)
      (try subst u0)
      clear u
      go_wp2_with (first | fail)
      exact ⟨rfl, by (repeat (first | with_reducible exact Below.refl _ _ | ((with_reducible refine Below.alloc1 ?_ ?_ _); (· first | omega | (simp; done) | (simp; omega))) | (with_reducible refine Below.drew ?_) | (with_reducible refine below_drewN' ?_ _) | ((with_reducible refine Below.setCell1 ?_ ?_ _); (· first | omega | (simp; done) | (simp; omega))) | ((with_reducible refine Below.after (by assumption) ?_ ?_); (· first | omega | (simp; done) | (simp; omega))))), rfl⟩
    · intro u w5 hb5 hd
      obtain ⟨hc5, hf5⟩ := bcell hb5
      (try simp only [World.heap_drewN, World.cell?_drewN, World.frozen?_drewN] at hc5 hf5)
      have hz5 := hb5.size
      (try simp at hz5)
      (try have hy5_0 : w.heap.size < w5.heap.size := by omega)
      (try have hy5_1 : w.heap.size + 1 < w5.heap.size := by omega)
      (try have hy5_2 : w.heap.size + 2 < w5.heap.size := by omega)
      (try have hy5_3 : w.heap.size + 3 < w5.heap.size := by omega)
      (try have hx5_0 : w.heap.size ≤ w5.heap.size := by omega)
      (try have hx5_1 : w.heap.size + 1 ≤ w5.heap.size := by omega)
      (try have hx5_2 : w.heap.size + 2 ≤ w5.heap.size := by omega)
      (try (simp [Region.binds, Note.phi, cellsAre] at hd))
      revert hd
      (try simp only [putsFrom, Act.put, List.setIfInBounds_toArray, List.set_cons_zero, List.set_cons_succ, Nat.zero_add, Nat.reduceAdd])
      generalize u 0 = u0
      generalize u 1 = u1
      ((try simp only [forall_exists_index, and_imp]); intros)
      (try subst u0)
      (try subst u1)
      clear u
      go_wp2_with (first | fail)
      exact ⟨rfl, by (repeat (first | with_reducible exact Below.refl _ _ | ((with_reducible refine Below.alloc1 ?_ ?_ _); (· first | omega | (simp; done) | (simp; omega))) | (with_reducible refine Below.drew ?_) | (with_reducible refine below_drewN' ?_ _) | ((with_reducible refine Below.setCell1 ?_ ?_ _); (· first | omega | (simp; done) | (simp; omega))) | ((with_reducible refine Below.after (by assumption) ?_ ?_); (· first | omega | (simp; done) | (simp; omega))))), rfl⟩
    · intro u w5 hb5 hd
      obtain ⟨hc5, hf5⟩ := bcell hb5
      (try simp only [World.heap_drewN, World.cell?_drewN, World.frozen?_drewN] at hc5 hf5)
      have hz5 := hb5.size
      (try simp at hz5)
      (try have hy5_0 : w.heap.size < w5.heap.size := by omega)
      (try have hy5_1 : w.heap.size + 1 < w5.heap.size := by omega)
      (try have hy5_2 : w.heap.size + 2 < w5.heap.size := by omega)
      (try have hy5_3 : w.heap.size + 3 < w5.heap.size := by omega)
      (try have hx5_0 : w.heap.size ≤ w5.heap.size := by omega)
      (try have hx5_1 : w.heap.size + 1 ≤ w5.heap.size := by omega)
      (try have hx5_2 : w.heap.size + 2 ≤ w5.heap.size := by omega)
      (try (simp [Region.binds, Note.phi, cellsAre] at hd))
      revert hd
      (try simp only [putsFrom, Act.put, List.setIfInBounds_toArray, List.set_cons_zero, List.set_cons_succ, Nat.zero_add, Nat.reduceAdd])
      generalize u 0 = u0
      generalize u 1 = u1
      generalize u 2 = u2
      ((try simp only [forall_exists_index, and_imp]); intros)
      (try subst u0)
      (try subst u1)
      (try subst u2)
      clear u
      go_wp2_with (first | fail)
      exact ⟨rfl, by (repeat (first | with_reducible exact Below.refl _ _ | ((with_reducible refine Below.alloc1 ?_ ?_ _); (· first | omega | (simp; done) | (simp; omega))) | (with_reducible refine Below.drew ?_) | (with_reducible refine below_drewN' ?_ _) | ((with_reducible refine Below.setCell1 ?_ ?_ _); (· first | omega | (simp; done) | (simp; omega))) | ((with_reducible refine Below.after (by assumption) ?_ ?_); (· first | omega | (simp; done) | (simp; omega))))), rfl⟩
    · intro u w5 hb5 hd
      obtain ⟨hc5, hf5⟩ := bcell hb5
      (try simp only [World.heap_drewN, World.cell?_drewN, World.frozen?_drewN] at hc5 hf5)
      have hz5 := hb5.size
      (try simp at hz5)
      (try have hy5_0 : w.heap.size < w5.heap.size := by omega)
      (try have hy5_1 : w.heap.size + 1 < w5.heap.size := by omega)
      (try have hy5_2 : w.heap.size + 2 < w5.heap.size := by omega)
      (try have hy5_3 : w.heap.size + 3 < w5.heap.size := by omega)
      (try have hx5_0 : w.heap.size ≤ w5.heap.size := by omega)
      (try have hx5_1 : w.heap.size + 1 ≤ w5.heap.size := by omega)
      (try have hx5_2 : w.heap.size + 2 ≤ w5.heap.size := by omega)
      (try (simp [Region.binds, Note.phi, cellsAre] at hd))
      revert hd
      (try simp only [putsFrom, Act.put, List.setIfInBounds_toArray, List.set_cons_zero, List.set_cons_succ, Nat.zero_add, Nat.reduceAdd])
      generalize u 0 = u0
      generalize u 1 = u1
      generalize u 2 = u2
      generalize u 3 = u3
      ((try simp only [forall_exists_index, and_imp]); intros)
      (try subst u0)
      (try subst u1)
      (try subst u2)
      (try subst u3)
      clear u
      go_wp2_with (first | fail)
      exact ⟨rfl, by (repeat (first | with_reducible exact Below.refl _ _ | ((with_reducible refine Below.alloc1 ?_ ?_ _); (· first | omega | (simp; done) | (simp; omega))) | (with_reducible refine Below.drew ?_) | (with_reducible refine below_drewN' ?_ _) | ((with_reducible refine Below.setCell1 ?_ ?_ _); (· first | omega | (simp; done) | (simp; omega))) | ((with_reducible refine Below.after (by assumption) ?_ ?_); (· first | omega | (simp; done) | (simp; omega))))), rfl⟩
    · intro u w5 hb5 hd
      obtain ⟨hc5, hf5⟩ := bcell hb5
      (try simp only [World.heap_drewN, World.cell?_drewN, World.frozen?_drewN] at hc5 hf5)
      have hz5 := hb5.size
      (try simp at hz5)
      (try have hy5_0 : w.heap.size < w5.heap.size := by omega)
      (try have hy5_1 : w.heap.size + 1 < w5.heap.size := by omega)
      (try have hy5_2 : w.heap.size + 2 < w5.heap.size := by omega)
      (try have hy5_3 : w.heap.size + 3 < w5.heap.size := by omega)
      (try have hx5_0 : w.heap.size ≤ w5.heap.size := by omega)
      (try have hx5_1 : w.heap.size + 1 ≤ w5.heap.size := by omega)
      (try have hx5_2 : w.heap.size + 2 ≤ w5.heap.size := by omega)
      (try (simp [Region.binds, Note.phi, cellsAre] at hd))
      revert hd
      (try simp only [putsFrom, Act.put, List.setIfInBounds_toArray, List.set_cons_zero, List.set_cons_succ, Nat.zero_add, Nat.reduceAdd])
      generalize u 0 = u0
      generalize u 1 = u1
      generalize u 2 = u2
      generalize u 3 = u3
      generalize u 4 = u4
      ((try simp only [forall_exists_index, and_imp]); intros)
      (try subst u0)
      (try subst u1)
      (try subst u2)
      (try subst u3)
      (try subst u4)
      clear u
      go_wp2_with (first | fail)
      exact ⟨rfl, by (repeat (first | with_reducible exact Below.refl _ _ | ((with_reducible refine Below.alloc1 ?_ ?_ _); (· first | omega | (simp; done) | (simp; omega))) | (with_reducible refine Below.drew ?_) | (with_reducible refine below_drewN' ?_ _) | ((with_reducible refine Below.setCell1 ?_ ?_ _); (· first | omega | (simp; done) | (simp; omega))) | ((with_reducible refine Below.after (by assumption) ?_ ?_); (· first | omega | (simp; done) | (simp; omega))))), rfl⟩
    · intro u w5 hb5 hd
      obtain ⟨hc5, hf5⟩ := bcell hb5
      (try simp only [World.heap_drewN, World.cell?_drewN, World.frozen?_drewN] at hc5 hf5)
      have hz5 := hb5.size
      (try simp at hz5)
      (try have hy5_0 : w.heap.size < w5.heap.size := by omega)
      (try have hy5_1 : w.heap.size + 1 < w5.heap.size := by omega)
      (try have hy5_2 : w.heap.size + 2 < w5.heap.size := by omega)
      (try have hy5_3 : w.heap.size + 3 < w5.heap.size := by omega)
      (try have hx5_0 : w.heap.size ≤ w5.heap.size := by omega)
      (try have hx5_1 : w.heap.size + 1 ≤ w5.heap.size := by omega)
      (try have hx5_2 : w.heap.size + 2 ≤ w5.heap.size := by omega)
      (try (simp [Region.binds, Note.phi, cellsAre] at hd))
      revert hd
      (try simp only [putsFrom, Act.put, List.setIfInBounds_toArray, List.set_cons_zero, List.set_cons_succ, Nat.zero_add, Nat.reduceAdd])
      generalize u 0 = u0
      generalize u 1 = u1
      generalize u 2 = u2
      generalize u 3 = u3
      generalize u 4 = u4
      generalize u 5 = u5
      ((try simp only [forall_exists_index, and_imp]); intros)
      (try subst u0)
      (try subst u1)
      (try subst u2)
      (try subst u3)
      (try subst u4)
      (try subst u5)
      clear u
      go_wp2_with (first | fail)
      exact ⟨rfl, by (repeat (first | with_reducible exact Below.refl _ _ | ((with_reducible refine Below.alloc1 ?_ ?_ _); (· first | omega | (simp; done) | (simp; omega))) | (with_reducible refine Below.drew ?_) | (with_reducible refine below_drewN' ?_ _) | ((with_reducible refine Below.setCell1 ?_ ?_ _); (· first | omega | (simp; done) | (simp; omega))) | ((with_reducible refine Below.after (by assumption) ?_ ?_); (· first | omega | (simp; done) | (simp; omega))))), rfl⟩
    · intro u w5 hb5 hd
      obtain ⟨hc5, hf5⟩ := bcell hb5
      (try simp only [World.heap_drewN, World.cell?_drewN, World.frozen?_drewN] at hc5 hf5)
      have hz5 := hb5.size
      (try simp at hz5)
      (try have hy5_0 : w.heap.size < w5.heap.size := by omega)
      (try have hy5_1 : w.heap.size + 1 < w5.heap.size := by omega)
      (try have hy5_2 : w.heap.size + 2 < w5.heap.size := by omega)
      (try have hy5_3 : w.heap.size + 3 < w5.heap.size := by omega)
      (try have hx5_0 : w.heap.size ≤ w5.heap.size := by omega)
      (try have hx5_1 : w.heap.size + 1 ≤ w5.heap.size := by omega)
      (try have hx5_2 : w.heap.size + 2 ≤ w5.heap.size := by omega)
      (try (simp [Region.binds, Note.phi, cellsAre] at hd))
      revert hd
      (try simp only [putsFrom, Act.put, List.setIfInBounds_toArray, List.set_cons_zero, List.set_cons_succ, Nat.zero_add, Nat.reduceAdd])
      generalize u 0 = u0
      generalize u 1 = u1
      generalize u 2 = u2
      generalize u 3 = u3
      generalize u 4 = u4
      generalize u 5 = u5
      generalize u 6 = u6
      ((try simp only [forall_exists_index, and_imp]); intros)
      (try subst u0)
      (try subst u1)
      (try subst u2)
      (try subst u3)
      (try subst u4)
      (try subst u5)
      (try subst u6)
      clear u
      go_wp2_with (first | fail)
      exact ⟨rfl, by (repeat (first | with_reducible exact Below.refl _ _ | ((with_reducible refine Below.alloc1 ?_ ?_ _); (· first | omega | (simp; done) | (simp; omega))) | (with_reducible refine Below.drew ?_) | (with_reducible refine below_drewN' ?_ _) | ((with_reducible refine Below.setCell1 ?_ ?_ _); (· first | omega | (simp; done) | (simp; omega))) | ((with_reducible refine Below.after (by assumption) ?_ ?_); (· first | omega | (simp; done) | (simp; omega))))), rfl⟩
    · intro u w5 hb5 hd
      obtain ⟨hc5, hf5⟩ := bcell hb5
      (try simp only [World.heap_drewN, World.cell?_drewN, World.frozen?_drewN] at hc5 hf5)
      have hz5 := hb5.size
      (try simp at hz5)
      (try have hy5_0 : w.heap.size < w5.heap.size := by omega)
      (try have hy5_1 : w.heap.size + 1 < w5.heap.size := by omega)
      (try have hy5_2 : w.heap.size + 2 < w5.heap.size := by omega)
      (try have hy5_3 : w.heap.size + 3 < w5.heap.size := by omega)
      (try have hx5_0 : w.heap.size ≤ w5.heap.size := by omega)
      (try have hx5_1 : w.heap.size + 1 ≤ w5.heap.size := by omega)
      (try have hx5_2 : w.heap.size + 2 ≤ w5.heap.size := by omega)
      (try (simp [Region.binds, Note.phi, cellsAre] at hd))
      revert hd
      (try simp only [putsFrom, Act.put, List.setIfInBounds_toArray, List.set_cons_zero, List.set_cons_succ, Nat.zero_add, Nat.reduceAdd])
      generalize u 0 = u0
      generalize u 1 = u1
      generalize u 2 = u2
      generalize u 3 = u3
      generalize u 4 = u4
      generalize u 5 = u5
      generalize u 6 = u6
      generalize u 7 = u7
      ((try simp only [forall_exists_index, and_imp]); intros)
      (try subst u0)
      (try subst u1)
      (try subst u2)
      (try subst u3)
      (try subst u4)
      (try subst u5)
      (try subst u6)
      (try subst u7)
      clear u
      go_wp2_with (first | fail)
      exact ⟨rfl, by (repeat (first | with_reducible exact Below.refl _ _ | ((with_reducible refine Below.alloc1 ?_ ?_ _); (· first | omega | (simp; done) | (simp; omega))) | (with_reducible refine Below.drew ?_) | (with_reducible refine below_drewN' ?_ _) | ((with_reducible refine Below.setCell1 ?_ ?_ _); (· first | omega | (simp; done) | (simp; omega))) | ((with_reducible refine Below.after (by assumption) ?_ ?_); (· first | omega | (simp; done) | (simp; omega))))), rfl⟩
    · intro u w5 hb5 hd
      obtain ⟨hc5, hf5⟩ := bcell hb5
      (try simp only [World.heap_drewN, World.cell?_drewN, World.frozen?_drewN] at hc5 hf5)
      have hz5 := hb5.size
      (try simp at hz5)
      (try have hy5_0 : w.heap.size < w5.heap.size := by omega)
      (try have hy5_1 : w.heap.size + 1 < w5.heap.size := by omega)
      (try have hy5_2 : w.heap.size + 2 < w5.heap.size := by omega)
      (try have hy5_3 : w.heap.size + 3 < w5.heap.size := by omega)
      (try have hx5_0 : w.heap.size ≤ w5.heap.size := by omega)
      (try have hx5_1 : w.heap.size + 1 ≤ w5.heap.size := by omega)
      (try have hx5_2 : w.heap.size + 2 ≤ w5.heap.size := by omega)
      (try (simp [Region.binds, Note.phi, cellsAre] at hd))
      revert hd
      (try simp only [putsFrom, Act.put, List.setIfInBounds_toArray, List.set_cons_zero, List.set_cons_succ, Nat.zero_add, Nat.reduceAdd])
      generalize u 0 = u0
      generalize u 1 = u1
      generalize u 2 = u2
      generalize u 3 = u3
      generalize u 4 = u4
      generalize u 5 = u5
      generalize u 6 = u6
      generalize u 7 = u7
      generalize u 8 = u8
      ((try simp only [forall_exists_index, and_imp]); intros)
      (try subst u0)
      (try subst u1)
      (try subst u2)
      (try subst u3)
      (try subst u4)
      (try subst u5)
      (try subst u6)
      (try subst u7)
      (try subst u8)
      clear u
      go_wp2_with (first | fail)
      exact ⟨rfl, by (repeat (first | with_reducible exact Below.refl _ _ | ((with_reducible refine Below.alloc1 ?_ ?_ _); (· first | omega | (simp; done) | (simp; omega))) | (with_reducible refine Below.drew ?_) | (with_reducible refine below_drewN' ?_ _) | ((with_reducible refine Below.setCell1 ?_ ?_ _); (· first | omega | (simp; done) | (simp; omega))) | ((with_reducible refine Below.after (by assumption) ?_ ?_); (· first | omega | (simp; done) | (simp; omega))))), w5.heap.size, rfl, Nat.le_refl _, by simp, heap_alloc_new _ _⟩
  intro u w5 hb5 hph hap
  obtain ⟨hc5, hf5⟩ := bcell hb5
  (try simp only [World.heap_drewN, World.cell?_drewN, World.frozen?_drewN] at hc5 hf5)
  have hz5 := hb5.size
  (try simp at hz5)
  (try have hy5_0 : w.heap.size < w5.heap.size := by omega)
  (try have hy5_1 : w.heap.size + 1 < w5.heap.size := by omega)
  (try have hy5_2 : w.heap.size + 2 < w5.heap.size := by omega)
  (try have hy5_3 : w.heap.size + 3 < w5.heap.size := by omega)
  (try have hx5_0 : w.heap.size ≤ w5.heap.size := by omega)
  (try have hx5_1 : w.heap.size + 1 ≤ w5.heap.size := by omega)
  (try have hx5_2 : w.heap.size + 2 ≤ w5.heap.size := by omega)
  have hp0 := hph 0 (by simp)
  have hp1 := hph 1 (by simp)
  have hp2 := hph 2 (by simp)
  have hp3 := hph 3 (by simp)
  have hp4 := hph 4 (by simp)
  have hp5 := hph 5 (by simp)
  have hp6 := hph 6 (by simp)
  have hp7 := hph 7 (by simp)
  have hp8 := hph 8 (by simp)
  have hp9 := hph 9 (by simp)
  clear hph hap
  simp only [List.length_cons, List.length_nil, List.take_succ_cons, List.take_zero, List.drop_succ_cons, List.drop_zero, List.cons_append, List.nil_append, putsFrom, putsBut, Act.put, List.setIfInBounds_toArray, List.set_cons_zero, List.set_cons_succ, Nat.zero_add, Nat.reduceAdd, Nat.reduceEqDiff, if_true, if_false, reduceIte, Nat.zero_ne_one, Nat.one_ne_zero]
  generalize u 0 = u0 at *
  generalize u 1 = u1 at *
  generalize u 2 = u2 at *
  generalize u 3 = u3 at *
  generalize u 4 = u4 at *
  generalize u 5 = u5 at *
  generalize u 6 = u6 at *
  generalize u 7 = u7 at *
  generalize u 8 = u8 at *
  generalize u 9 = u9 at *
  clear u
  cases hp0
  cases hp1
  cases hp2
  cases hp3
  cases hp4
  cases hp5
  cases hp6
  cases hp7
  cases hp8
  obtain ⟨B9, rfl, hl9, hg9, hs9⟩ := hp9
  (try simp only [cellsAre, and_true] at hs9)
  rotate_left
  intro u w5 hb5 hph hap
  obtain ⟨hc5, hf5⟩ := bcell hb5
  (try simp only [World.heap_drewN, World.cell?_drewN, World.frozen?_drewN] at hc5 hf5)
  have hz5 := hb5.size
  (try simp at hz5)
  (try have hy5_0 : w.heap.size < w5.heap.size := by omega)
  (try have hy5_1 : w.heap.size + 1 < w5.heap.size := by omega)
  (try have hy5_2 : w.heap.size + 2 < w5.heap.size := by omega)
  (try have hy5_3 : w.heap.size + 3 < w5.heap.size := by omega)
  (try have hx5_0 : w.heap.size ≤ w5.heap.size := by omega)
  (try have hx5_1 : w.heap.size + 1 ≤ w5.heap.size := by omega)
  (try have hx5_2 : w.heap.size + 2 ≤ w5.heap.size := by omega)
  have hp1 := hph 1 (by simp) (by decide)
  have hp2 := hph 2 (by simp) (by decide)
  have hp3 := hph 3 (by simp) (by decide)
  have hp4 := hph 4 (by simp) (by decide)
  have hp5 := hph 5 (by simp) (by decide)
  have hp6 := hph 6 (by simp) (by decide)
  have hp7 := hph 7 (by simp) (by decide)
  have hp8 := hph 8 (by simp) (by decide)
  have hp9 := hph 9 (by simp) (by decide)
  clear hph hap
  simp only [List.length_cons, List.length_nil, List.take_succ_cons, List.take_zero, List.drop_succ_cons, List.drop_zero, List.cons_append, List.nil_append, putsFrom, putsBut, Act.put, List.setIfInBounds_toArray, List.set_cons_zero, List.set_cons_succ, Nat.zero_add, Nat.reduceAdd, Nat.reduceEqDiff, if_true, if_false, reduceIte, Nat.zero_ne_one, Nat.one_ne_zero]
  generalize u 1 = u1 at *
  generalize u 2 = u2 at *
  generalize u 3 = u3 at *
  generalize u 4 = u4 at *
  generalize u 5 = u5 at *
  generalize u 6 = u6 at *
  generalize u 7 = u7 at *
  generalize u 8 = u8 at *
  generalize u 9 = u9 at *
  clear u
  cases hp1
  cases hp2
  cases hp3
  cases hp4
  cases hp5
  cases hp6
  cases hp7
  cases hp8
  obtain ⟨B9, rfl, hl9, hg9, hs9⟩ := hp9
  (try simp only [cellsAre, and_true] at hs9)
  rotate_left
  all_goals
    have hb45 : Below w4.heap.size w4 w5 := by (repeat (first | with_reducible exact Below.refl _ _ | ((with_reducible refine Below.alloc1 ?_ ?_ _); (· first | omega | (simp; done) | (simp; omega))) | (with_reducible refine Below.drew ?_) | (with_reducible refine below_drewN' ?_ _) | ((with_reducible refine Below.setCell1 ?_ ?_ _); (· first | omega | (simp; done) | (simp; omega))) | ((with_reducible refine Below.after (by assumption) ?_ ?_); (· first | omega | (simp; done) | (simp; omega)))))
    have h5t := h4.below hb45
    have hsz45 := hb45.size
    have hB5 : B ≤ w5.heap.size := by omega
    have hub5 : Upd w w5 T (.slice va its.length vc) (.slice va its.length vc) := ⟨hb45.os.trans hub.os, hb45.tape.trans hub.tape, hb45.output.trans hub.output, Nat.le_trans hub.size hb45.size, fun k hk h1 h2 => (hb45.block k (Nat.lt_of_lt_of_le hk hub.size)).trans (hub.block k hk h1 h2), .inl rfl⟩
    have hlB : w4.heap.size ≤ B9 := by simpa using hl9
    have hvB : (Value.slice va its.length vc).ownBlock ≠ some B9 := by
      intro e
      have := (h4.own.lt B9 e).2
      omega
    have hI := vInsert (.slice va its.length vc) B9 B its.length p (itCells its) [.float .f64 x0, .float .f64 x1, .bool false, .bool false, .int .i64 n] w5 hB5 h5t.own (by omega) hple (itCells_one its) rfl (by intro u hu; simp at hu; rcases hu with rfl | rfl | rfl | rfl | rfl <;> rfl) hs9 hvB
    clear hc5 hf5 hs9
    have cT := cell_row h5t.tab 1
    simp at cT
    go_wp2_with fail
    with_reducible refine hI.mono ?_
    rintro e w3 ⟨v', rfl, hown3, hgr3⟩
    clear hI
    rcases hown3.2 with ⟨rfl, h0⟩ | ⟨g3, cap3, cur3, rfl, hbg3, hg3, hnc3, hcm3, hcs3, htake3⟩
    · have := hown3.1
      rw [h0] at this; simp at this
    · have hT5 := h5t.lt
      have t3 : w3.heap[T]? = some (.cells #[.int .i64 most, .slice va its.length vc] 109 (0, 0)) := (hgr3.1.block T hT5 (fun e => hvT e.symm)).trans h5t.tab
      have c3 := cell_row t3 1
      have f3 : w3.frozen? ⟨T, 1, none⟩ = false := by simp [World.frozen?, t3]
      simp at c3
      have hgT : g3 ≠ T := fun e => by
        rcases hgr3.2 with h | h | ⟨g, h, hge⟩
        · exact hvT (by rw [← h, e]; rfl)
        · simp [Value.ownBlock] at h
        · simp [Value.ownBlock] at h; omega
      have hcells : itCells its |>.take (p * 5) |> (· ++ [Value.float .f64 x0, Value.float .f64 x1, Value.bool false, Value.bool false, Value.int .i64 n] ++ (itCells its).drop (p * 5)) |> (· = itCells (its.take p ++ [⟨keyR kb, n⟩] ++ its.drop p)) := by
        show (itCells its).take (p * 5) ++ [Value.float .f64 x0, Value.float .f64 x1, Value.bool false, Value.bool false, Value.int .i64 n] ++ (itCells its).drop (p * 5) = _
        unfold itCells
        rw [flat_take ItV.enc_len, flat_drop ItV.enc_len, List.flatMap_append, List.flatMap_append, ← HK0.out, ← HK1.out]
        rfl
      have hlen3 : (its.take p ++ [(⟨keyR kb, n⟩ : ItV)] ++ its.drop p).length = its.length + 1 := by simp; omega
      have fin : PutRet w B T (.slice va its.length vc) most (0, its.take p ++ [⟨keyR kb, n⟩] ++ its.drop p) (.returned (.int .i64 0)) (w3.setCell ⟨T, 1, none⟩ (.slice (some ⟨g3, 0, none⟩) (its.length + 1) cap3)) := by
        rw [setCell_eq_setRow w3 T 1 _ _ _ _ t3]
        have hk3 := grownBy_setRow w3 T (#[Value.int .i64 most, Value.slice va its.length vc].setIfInBounds 1 (.slice (some ⟨g3, 0, none⟩) (its.length + 1) cap3))
        refine ⟨.slice (some ⟨g3, 0, none⟩) (its.length + 1) cap3, rfl, ⟨?_, ?_, by simpa [Value.ownBlock] using hgT, hlow, by rw [hlen3]; omega⟩, ⟨?_, ?_, ?_, ?_, ?_, ?_⟩⟩
        · rw [setRow_heap w3 T _ _ _ _ t3]; rfl
        · rw [hlen3, ← hcells]
          exact hown3.kept hk3 (.inr (by simpa [Value.ownBlock] using hgT))
        · exact hk3.os.trans (hgr3.1.os.trans hub5.os)
        · exact hk3.tape.trans (hgr3.1.tape.trans hub5.tape)
        · exact hk3.output.trans (hgr3.1.output.trans hub5.output)
        · exact Nat.le_trans hub5.size (Nat.le_trans hgr3.1.size hk3.size)
        · intro k hk hkT hkv
          have q1 := hub5.size
          have q2 := hgr3.1.size
          exact (hk3.block k (by omega) (by simpa using hkT)).trans ((hgr3.1.block k (by omega) hkv).trans (hub5.block k hk hkT hkv))
        · rcases hgr3.2 with h | h | ⟨g, h, hge⟩
          · exact .inl h
          · exact .inr (.inl h)
          · exact .inr (.inr ⟨g, h, Nat.le_trans hub5.size hge⟩)
      have hfin := hid fin
      clear fin hcells hlen3 t3 hown3 hgr3 hub5 hub h4 h5t hg3 hcs3 htake3 hb45 hvT hvB hgT
      go_wp2
      go_ret
      exact hfin.out


theorem tabPut_any {w : World} {B T : Nat} {v : Value} {most : Int} {its : List ItV} (h : TabAt w B T v most its) (hB : B ≤ w.heap.size) (hr : rises its) (lo hi : Nat) (a b : Bool) (hl : lo < 2 ^ 64) (hh : hi < 2 ^ 64) (n : Int) (hm1 : (its.length : Int) ≤ most) (hm2 : most ≤ 64) :
    Calls Try.prog 33 #[.pointer (some ⟨T, 0, none⟩), .agg #[.float .f64 lo, .float .f64 hi, .bool a, .bool b], .int .i64 n] w (PutRet w B T v most (putI its most (canonS lo hi a b) n)) := by
  have hk := okR_canon lo hi a b
  obtain ⟨kb, hkb⟩ : ∃ kb, canonS lo hi a b = kb := ⟨_, rfl⟩
  rw [hkb] at hk ⊢
  have hkb := hid hkb
  unfold putI
  by_cases h1 : kb = none
  · rw [if_pos h1]; exact tabPut_bad h hr lo hi a b kb hl hh hkb hk n 41 (.inl ⟨h1, rfl⟩)
  · rw [if_neg h1]
    by_cases h2 : n < 1 ∨ 1099511627776 < n
    · rw [if_pos h2]
      by_cases h3 : n < 1
      · exact tabPut_bad h hr lo hi a b kb hl hh hkb hk n 43 (.inr (.inl ⟨h1, h3, rfl⟩))
      · exact tabPut_bad h hr lo hi a b kb hl hh hkb hk n 43 (.inr (.inr ⟨h1, by omega, by omega, rfl⟩))
    · rw [if_neg h2]
      by_cases h3 : plcB its kb = true
      · rw [if_pos h3]; exact tabPut_set h hr lo hi a b kb hl hh hkb hk n h1 (by omega) (by omega) h3
      · have h3' : plcB its kb = false := by simpa using h3
        rw [if_neg h3]
        by_cases h4 : (its.length : Int) = most
        · rw [if_pos h4]; exact tabPut_full h hr lo hi a b kb hl hh hkb hk n h1 (by omega) (by omega) h3' h4
        · rw [if_neg h4]; exact tabPut_ins h hr lo hi a b kb hl hh hkb hk n h1 (by omega) (by omega) hB h3' h4 (by omega)
end Go.Proofs.Ytnlaepogkepnhaa.Q
