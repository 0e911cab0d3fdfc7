/- The document's table of layer 9: Same, Between, New, At, Over. -/
import Derived.Test.YtnlaepogkepnhaaVG
import Derived.Test.YtnlaepogkepnhaaR01
namespace Go.Proofs.Ytnlaepogkepnhaa
set_option linter.unusedVariables false
open Go.RowKit Fl

theorem refSame_any (x y : Nat) (hx : x < 2 ^ 64) (hy : y < 2 ^ 64) (w : World) :
    Calls Try.prog 57 #[.float .f64 x, .float .f64 y] w fun e w' => e = .returned (.bool (decide (cbits x = cbits y))) ∧ w = w' := by
  have H1 := fun W => refBits_any x hx W
  have H2 := fun W => refBits_any y hy W
  have e : decide (cbits x = cbits y) = (((cbits x : Nat) : Int) == ((cbits y : Nat) : Int)) := by
    rw [Bool.eq_iff_iff]; simp; omega
  rw [e]
  generalize ((cbits x : Nat) : Int) = a at *
  generalize ((cbits y : Nat) : Int) = b at *
  go_enter Try.func57, Try.ntmps57
  go_wp2_with (first | (go_at_call 83; (with_reducible refine (H1 _).mono ?_); rintro e w' ⟨rfl, rfl⟩) | (go_at_call 83; (with_reducible refine (H2 _).mono ?_); rintro e w' ⟨rfl, rfl⟩))
  go_ret
  exact ⟨rfl, rfl⟩

theorem cbits_code (k : Key) (kb : Nat) : decide (cbits k.bits = cbits kb) = decide (codeOf k.bits = codeOf kb) := by
  have e1 : cbits k.bits = k.bits := by rw [cbits_num (Key.bits_nan k), Key.kof_bits]
  rw [e1, Bool.eq_iff_iff, decide_eq_true_eq, decide_eq_true_eq]
  constructor
  · intro h
    cases hn : isNaN kb
    · rw [cbits_num hn] at h
      rw [h, key_code hn]
    · have : cbits kb = nanBits := by simp [cbits, hn]
      rw [this] at h
      have := Key.bits_nan k
      rw [h] at this
      exact absurd this (by decide)
  · intro h
    obtain ⟨hn, hk⟩ := code_key h
    rw [cbits_num hn, hk]

theorem refSame_key (k : Key) (kb : Nat) (hk : kb < 2 ^ 64) (v : Bool) (hv : Hid (decide (codeOf k.bits = codeOf kb) = v)) (w : World) :
    Calls Try.prog 57 #[.float .f64 k.bits, .float .f64 kb] w fun e w' => e = .returned (.bool v) ∧ w = w' := by
  have := refSame_any k.bits kb (Key.bits_lt k) hk w
  rwa [cbits_code, hv.out] at this

theorem refBetween_any (n : Int) (w : World) :
    Calls Try.prog 55 #[.int .i64 n, .int .i64 0, .int .i64 64] w (Ret (.int .i64 (mostI n)) w) := by
  by_cases h1 : n < 0
  · rw [show mostI n = 0 by unfold mostI; omega]
    go_enter Try.func55, Try.ntmps55
    go_wp2
    go_ret
    exact ⟨rfl, by (repeat (first | with_reducible exact Below.refl _ _ | ((with_reducible refine Below.alloc1 ?_ ?_ _); (· first | omega | (simp; done) | (simp; omega))) | (with_reducible refine Below.drew ?_) | (with_reducible refine below_drewN' ?_ _) | ((with_reducible refine Below.setCell1 ?_ ?_ _); (· first | omega | (simp; done) | (simp; omega))) | ((with_reducible refine Below.after (by assumption) ?_ ?_); (· first | omega | (simp; done) | (simp; omega)))))⟩
  · have h1' : 0 ≤ n := by omega
    by_cases h2 : 64 < n
    · rw [show mostI n = 64 by unfold mostI; omega]
      clear h1
      go_enter Try.func55, Try.ntmps55
      go_wp2
      go_ret
      exact ⟨rfl, by (repeat (first | with_reducible exact Below.refl _ _ | ((with_reducible refine Below.alloc1 ?_ ?_ _); (· first | omega | (simp; done) | (simp; omega))) | (with_reducible refine Below.drew ?_) | (with_reducible refine below_drewN' ?_ _) | ((with_reducible refine Below.setCell1 ?_ ?_ _); (· first | omega | (simp; done) | (simp; omega))) | ((with_reducible refine Below.after (by assumption) ?_ ?_); (· first | omega | (simp; done) | (simp; omega)))))⟩
    · have h2' : n ≤ 64 := by omega
      rw [show mostI n = n by unfold mostI; omega]
      clear h1 h2
      go_enter Try.func55, Try.ntmps55
      go_wp2
      go_ret
      exact ⟨rfl, by (repeat (first | with_reducible exact Below.refl _ _ | ((with_reducible refine Below.alloc1 ?_ ?_ _); (· first | omega | (simp; done) | (simp; omega))) | (with_reducible refine Below.drew ?_) | (with_reducible refine below_drewN' ?_ _) | ((with_reducible refine Below.setCell1 ?_ ?_ _); (· first | omega | (simp; done) | (simp; omega))) | ((with_reducible refine Below.after (by assumption) ?_ ?_); (· first | omega | (simp; done) | (simp; omega)))))⟩

theorem refNew09_any (n : Int) (w : World) :
    Calls Try.prog 19 #[.int .i64 n] w (Ret (.agg #[.int .i64 (mostI n), .slice none 0 0]) w) := by
  have H := fun W => refBetween_any n W
  generalize mostI n = m at *
  go_enter Try.func19, Try.ntmps19
  go_wp2_with (go_at_call 55; (with_reducible refine (H _).mono ?_); rintro e w1 ⟨rfl, hb1⟩; obtain ⟨hc1, hf1⟩ := bcell hb1; (try simp only [World.heap_drewN, World.cell?_drewN, World.frozen?_drewN] at hc1 hf1); have hz1 := hb1.size; (try simp at hz1); (try have hy1_0 : w.heap.size < w1.heap.size := by omega); (try have hy1_1 : w.heap.size + 1 < w1.heap.size := by omega); (try have hy1_2 : w.heap.size + 2 < w1.heap.size := by omega); (try have hy1_3 : w.heap.size + 3 < w1.heap.size := by omega); (try have hx1_0 : w.heap.size ≤ w1.heap.size := by omega); (try have hx1_1 : w.heap.size + 1 ≤ w1.heap.size := by omega); (try have hx1_2 : w.heap.size + 2 ≤ w1.heap.size := by omega))
  exact bodyPost_ret (v := .agg #[.int .i64 m, .slice none 0 0]) (by simp [results, Try.results19, go_sem, *]) rfl ⟨rfl, by (repeat (first | with_reducible exact Below.refl _ _ | ((with_reducible refine Below.alloc1 ?_ ?_ _); (· first | omega | (simp; done) | (simp; omega))) | (with_reducible refine Below.drew ?_) | (with_reducible refine below_drewN' ?_ _) | ((with_reducible refine Below.setCell1 ?_ ?_ _); (· first | omega | (simp; done) | (simp; omega))) | ((with_reducible refine Below.after (by assumption) ?_ ?_); (· first | omega | (simp; done) | (simp; omega)))))⟩

/-- A row of the document's items lies at a slice's address. -/
structure MAt (w : World) (a : Option Addr) (ms : List ItV) : Prop where
  row : 0 < ms.length → ∃ g, a = some ⟨g, 0, none⟩ ∧ g < w.heap.size ∧ ∀ i, i < ms.length → w.cell? ⟨g, i * 2, none⟩ = some (.float .f64 (ms[i]?.getD default).k.bits) ∧ w.cell? ⟨g, i * 2 + 1, none⟩ = some (.int .i64 (ms[i]?.getD default).n)
  len : ms.length ≤ 64
theorem MAt.below {w w' : World} {a : Option Addr} {ms : List ItV} (h : MAt w a ms) (hb : Below w.heap.size w w') : MAt w' a ms := by
  refine ⟨fun h0 => ?_, h.len⟩
  obtain ⟨g, e, hg, hc⟩ := h.row h0
  exact ⟨g, e, Nat.lt_of_lt_of_le hg hb.size, fun i hi => ⟨(hb.cell (p := ⟨g, _, none⟩) hg).trans (hc i hi).1, (hb.cell (p := ⟨g, _, none⟩) hg).trans (hc i hi).2⟩⟩

/-- The number of the first item of a key. -/
def atR (ms : List ItV) (kb : Nat) : Int := ((ms.find? fun x => decide (codeOf x.k.bits = codeOf kb)).map (·.n)).getD 0
theorem atR_hit {ms : List ItV} {kb i : Nat} {x : ItV} (hx : ms[i]? = some x) (hk : decide (codeOf x.k.bits = codeOf kb) = true) (hb : ∀ j, j < i → ∀ y, ms[j]? = some y → decide (codeOf y.k.bits = codeOf kb) = false) : atR ms kb = x.n := by
  obtain ⟨h1, h2⟩ := List.getElem?_eq_some_iff.1 hx
  have : ms.find? (fun x => decide (codeOf x.k.bits = codeOf kb)) = some x := by
    rw [List.find?_eq_some_iff_getElem]
    exact ⟨hk, i, h1, h2, fun j hj => by rw [hb j hj _ (List.getElem?_eq_getElem (by omega))]; rfl⟩
  simp [atR, this]
theorem atR_miss {ms : List ItV} {kb : Nat} (hb : ∀ (j : Nat) (y : ItV), ms[j]? = some y → decide (codeOf y.k.bits = codeOf kb) = false) : atR ms kb = 0 := by
  have : ms.find? (fun x => decide (codeOf x.k.bits = codeOf kb)) = none := by
    rw [List.find?_eq_none]
    intro x hx
    obtain ⟨j, hj, rfl⟩ := List.getElem_of_mem hx
    rw [hb j _ (List.getElem?_eq_getElem hj)]; simp
  simp [atR, this]

set_option maxRecDepth 100000 in
theorem refAt_any (most : Int) (a : Option Addr) (c : Nat) (ms : List ItV) (kb : Nat) (w : World) (hm : MAt w a ms) (hk : kb < 2 ^ 64) :
    Calls Try.prog 21 #[.agg #[.int .i64 most, .slice a ms.length c], .float .f64 kb] w (Ret (.int .i64 (atR ms kb)) w) := by
  obtain ⟨n, hn⟩ : ∃ n, ms.length = n := ⟨_, rfl⟩
  have HM := hid hm
  have hl := hm.len
  rw [hn] at hl ⊢
  have HN := hid hn
  have HH := hid (fun i x => atR_hit (ms := ms) (kb := kb) (i := i) (x := x))
  have HS := hid (atR_miss (ms := ms) (kb := kb))
  clear hm hn
  generalize atR ms kb = v at *
  go_enter Try.func21, Try.ntmps21
  go_wp2
  go_loopw [5] (fun iv wr => ∃ i : Nat, i ≤ n ∧ iv = .int .i64 i ∧ Hid (∀ j, j < i → ∀ y, ms[j]? = some y → decide (codeOf y.k.bits = codeOf kb) = false) ∧ Below w.heap.size w wr ∧ w.heap.size < wr.heap.size ∧ wr.cell? ⟨w.heap.size, 1, none⟩ = some (.slice a n c)) (fun iv _ => n - (intOf iv).toNat)
  case atStart => exact ⟨0, Nat.zero_le _, rfl, hid fun j hj => absurd hj (Nat.not_lt_zero _), by (repeat (first | with_reducible exact Below.refl _ _ | ((with_reducible refine Below.alloc1 ?_ ?_ _); (· first | omega | (simp; done) | (simp; omega))) | (with_reducible refine Below.drew ?_) | (with_reducible refine below_drewN' ?_ _) | ((with_reducible refine Below.setCell1 ?_ ?_ _); (· first | omega | (simp; done) | (simp; omega))) | ((with_reducible refine Below.after (by assumption) ?_ ?_); (· first | omega | (simp; done) | (simp; omega))))), by simp, by simp [go_sem]⟩
  case round =>
    obtain ⟨i, hin, rfl, HB, hb, hz, hc⟩ := hrel
    by_cases hlt : i < n
    · have hlt' : (i : Int) < (n : Int) := by omega
      have hil : i < ms.length := by rw [HN.out]; exact hlt
      obtain ⟨g, rfl, hg, hcs⟩ := HM.out.row (by omega)
      obtain ⟨d0, d1⟩ := hcs i hil
      have d0 := (hb.cell (p := ⟨g, _, none⟩) hg).trans d0
      have d1 := (hb.cell (p := ⟨g, _, none⟩) hg).trans d1
      have hx := hid (it_some hil)
      generalize ms[i]?.getD default = x at *
      clear hcs hil
      cases hq : decide (codeOf x.k.bits = codeOf kb)
      · have HQ := hid hq
        clear hq
        go_wp2_with (go_at_call 57; (with_reducible refine (refSame_key x.k kb hk false HQ _).mono ?_); rintro e w' ⟨rfl, rfl⟩)
        go_roundw
        case rel => exact ⟨i + 1, by omega, by go_num, hid fun j hj y hy => by
            by_cases h : j < i
            · exact HB.out j h y hy
            · obtain rfl : j = i := by omega
              rw [hx.out] at hy; cases hy; exact HQ.out, by (repeat (first | with_reducible exact Below.refl _ _ | ((with_reducible refine Below.alloc1 ?_ ?_ _); (· first | omega | (simp; done) | (simp; omega))) | (with_reducible refine Below.drew ?_) | (with_reducible refine below_drewN' ?_ _) | ((with_reducible refine Below.setCell1 ?_ ?_ _); (· first | omega | (simp; done) | (simp; omega))) | ((with_reducible refine Below.after (by assumption) ?_ ?_); (· first | omega | (simp; done) | (simp; omega))))), by assumption, by assumption⟩
        case measure => simp [intOf]; omega
      · have HQ := hid hq
        clear hq
        go_wp2_with (go_at_call 57; (with_reducible refine (refSame_key x.k kb hk true HQ _).mono ?_); rintro e w' ⟨rfl, rfl⟩)
        go_ret
        exact ⟨by rw [HH.out i x hx.out HQ.out HB.out]; rfl, by (repeat (first | with_reducible exact Below.refl _ _ | ((with_reducible refine Below.alloc1 ?_ ?_ _); (· first | omega | (simp; done) | (simp; omega))) | (with_reducible refine Below.drew ?_) | (with_reducible refine below_drewN' ?_ _) | ((with_reducible refine Below.setCell1 ?_ ?_ _); (· first | omega | (simp; done) | (simp; omega))) | ((with_reducible refine Below.after (by assumption) ?_ ?_); (· first | omega | (simp; done) | (simp; omega)))))⟩
    · obtain rfl : i = n := by omega
      go_wp2
      go_ret
      exact ⟨by rw [HS.out fun j y hy => HB.out j (by have := (List.getElem?_eq_some_iff.1 hy).1; have := HN.out; omega) y hy]; rfl, by (repeat (first | with_reducible exact Below.refl _ _ | ((with_reducible refine Below.alloc1 ?_ ?_ _); (· first | omega | (simp; done) | (simp; omega))) | (with_reducible refine Below.drew ?_) | (with_reducible refine below_drewN' ?_ _) | ((with_reducible refine Below.setCell1 ?_ ?_ _); (· first | omega | (simp; done) | (simp; omega))) | ((with_reducible refine Below.after (by assumption) ?_ ?_); (· first | omega | (simp; done) | (simp; omega)))))⟩
end Go.Proofs.Ytnlaepogkepnhaa
