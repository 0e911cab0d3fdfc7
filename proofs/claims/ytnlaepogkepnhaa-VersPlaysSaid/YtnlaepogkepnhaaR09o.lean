/- The document's table of layer 9: Over. -/
import Derived.Test.YtnlaepogkepnhaaR09d
namespace Go.Proofs.Ytnlaepogkepnhaa
set_option linter.unusedVariables false
open Go.RowKit Fl

theorem refHasG (r : Rg) (key : Nat) (v : Bool) (w : World) (hk : key < 2 ^ 64) (hv : Hid (hasB r key = v)) :
    Calls Try.prog 60 #[.agg #[.int .u64 (rlo r), .int .u64 (rhi r)], .float .f64 key] w (Ret (.bool v) w) := by
  have h := refHas_is r key v w hk hv
  rcases r with _ | ⟨l, h'⟩ <;> exact h

set_option maxRecDepth 100000 in
theorem refOver_any (most : Int) (a : Option Addr) (c : Nat) (ms : List ItV) (lo hi : Nat) (b1 b2 : Bool) (w : World) (hm : MAt w a ms) (hl : lo < 2 ^ 64) (hh : hi < 2 ^ 64) :
    Calls Try.prog 24 #[.agg #[.int .i64 most, .slice a ms.length c], .agg #[.float .f64 lo, .float .f64 hi, .bool b1, .bool b2]] w (Ret (.int .i64 (overI ms (canonS lo hi b1 b2))) w) := by
  obtain ⟨n, hn⟩ : ∃ n, ms.length = n := ⟨_, rfl⟩
  obtain ⟨r, hr⟩ : ∃ r, canonS lo hi b1 b2 = r := ⟨_, rfl⟩
  have HR := hid hr
  have HM := hid hm
  have hlen := hm.len
  rw [hn] at hlen ⊢
  rw [hr]
  have HN := hid hn
  have HT : Hid (ms.take n = ms) := hid (by rw [← hn]; exact List.take_length)
  clear hm hn hr
  go_enter Try.func24, Try.ntmps24
  go_wp2
  go_loopw [6, 5] (fun iv nv wr => ∃ i : Nat, i ≤ n ∧ iv = .int .i64 i ∧ nv = .int .i64 (overI (ms.take i) r) ∧ Below w.heap.size w wr ∧ w.heap.size + 1 < wr.heap.size ∧ wr.cell? ⟨w.heap.size, 1, none⟩ = some (.slice a n c) ∧
    wr.cell? ⟨w.heap.size + 1, 0, none⟩ = some (.float .f64 lo) ∧ wr.cell? ⟨w.heap.size + 1, 1, none⟩ = some (.float .f64 hi) ∧ wr.cell? ⟨w.heap.size + 1, 2, none⟩ = some (.bool b1) ∧ wr.cell? ⟨w.heap.size + 1, 3, none⟩ = some (.bool b2)) (fun iv _ _ => n - (intOf iv).toNat)
  case atStart => exact ⟨0, Nat.zero_le _, rfl, rfl, by (repeat (first | with_reducible exact Below.refl _ _ | ((with_reducible refine Below.alloc1 ?_ ?_ _); (· first | omega | (simp; done) | (simp; omega))) | (with_reducible refine Below.drew ?_) | (with_reducible refine below_drewN' ?_ _) | ((with_reducible refine Below.setCell1 ?_ ?_ _); (· first | omega | (simp; done) | (simp; omega))) | ((with_reducible refine Below.after (by assumption) ?_ ?_); (· first | omega | (simp; done) | (simp; omega))))), by simp, by simp [go_sem], by simp [go_sem], by simp [go_sem], by simp [go_sem], by simp [go_sem]⟩
  case round =>
    obtain ⟨i, hin, rfl, rfl, hb, hz, hc, e0, e1, e2, e3⟩ := hrel
    have hz0 : w.heap.size < wr.heap.size := by omega
    by_cases hlt : i < n
    · have hlt' : (i : Int) < (n : Int) := by omega
      have hil : i < ms.length := by rw [HN.out]; exact hlt
      obtain ⟨g, rfl, hg, hcs⟩ := HM.out.row (by omega)
      obtain ⟨d0, d1⟩ := hcs i hil
      have d0 := (hb.cell (p := ⟨g, _, none⟩) hg).trans d0
      have d1 := (hb.cell (p := ⟨g, _, none⟩) hg).trans d1
      have hgw : g < wr.heap.size := Nat.lt_of_lt_of_le hg hb.size
      have hs := over_snoc (it_some hil) r
      have hx := hid (it_some hil)
      generalize ms[i]?.getD default = x at *
      clear hcs hil
      obtain ⟨q, hq⟩ : ∃ q, hasB r x.k.bits = q := ⟨_, rfl⟩
      rw [hq] at hs
      have HQ := hid hq
      clear hq
      obtain ⟨m, hm⟩ : ∃ m, overI (ms.take i) r = m := ⟨_, rfl⟩
      rw [hm] at hs ⊢
      clear hm
      cases q
      · simp only [Bool.false_eq_true, if_false] at hs
        have HS := hid hs
        clear hs
        go_wp2
        (refine wp_region_ext (by kernel_rfl) (by kernel_rfl) ?_; (repeat (go_big_quiet_step (first | (go_at_call 61; with_reducible exact Calls.ext_of (refOfG lo hi b1 b2 r _ hl hh HR)) | (go_at_call 60; with_reducible exact Calls.ext_of (refHasG r x.k.bits false _ (Key.bits_lt _) HQ))))); refine wpQuiet_nil ?_; rintro w7 ⟨x7, hx7⟩; have hb7 := x7.b; rw [← hx7] at hb7; clear hx7 x7; obtain ⟨hc7, hf7⟩ := bcell hb7; (try simp only [World.heap_drewN, World.cell?_drewN, World.frozen?_drewN] at hc7 hf7); have hz7 := hb7.size; (try simp at hz7); (try have hy7_0 : w.heap.size < w7.heap.size := by omega); (try have hy7_1 : w.heap.size + 1 < w7.heap.size := by omega); (try have hy7_2 : w.heap.size + 2 < w7.heap.size := by omega); (try have hy7_3 : w.heap.size + 3 < w7.heap.size := by omega); (try have hx7_0 : w.heap.size ≤ w7.heap.size := by omega); (try have hx7_1 : w.heap.size + 1 ≤ w7.heap.size := by omega); (try have hx7_2 : w.heap.size + 2 ≤ w7.heap.size := by omega); (try have hu7_wr_0 : wr.heap.size < w7.heap.size := by omega); (try have hu7_wr_1 : wr.heap.size + 1 < w7.heap.size := by omega))
        go_wp2
        go_roundw
        case rel => exact ⟨i + 1, by omega, by go_num, by rw [HS.out], by (repeat (first | with_reducible exact Below.refl _ _ | ((with_reducible refine Below.alloc1 ?_ ?_ _); (· first | omega | (simp; done) | (simp; omega))) | (with_reducible refine Below.drew ?_) | (with_reducible refine below_drewN' ?_ _) | ((with_reducible refine Below.setCell1 ?_ ?_ _); (· first | omega | (simp; done) | (simp; omega))) | ((with_reducible refine Below.after (by assumption) ?_ ?_); (· first | omega | (simp; done) | (simp; omega))))), by omega, by simp [go_sem, *], by simp [go_sem, *], by simp [go_sem, *], by simp [go_sem, *], by simp [go_sem, *]⟩
        case measure => simp [intOf]; omega
      · simp only [if_true] at hs
        by_cases hgt : m < x.n
        · have hs2 : overI (ms.take (i + 1)) r = x.n := by rw [hs]; omega
          have HS := hid hs2
          have hd : decide (m < x.n) = true := by simp; exact hgt
          clear hs hs2
          go_wp2
          (refine wp_region_ext (by kernel_rfl) (by kernel_rfl) ?_; (repeat (go_big_quiet_step (first | (go_at_call 61; with_reducible exact Calls.ext_of (refOfG lo hi b1 b2 r _ hl hh HR)) | (go_at_call 60; with_reducible exact Calls.ext_of (refHasG r x.k.bits true _ (Key.bits_lt _) HQ))))); refine wpQuiet_nil ?_; rintro w7 ⟨x7, hx7⟩; have hb7 := x7.b; rw [← hx7] at hb7; clear hx7 x7; obtain ⟨hc7, hf7⟩ := bcell hb7; (try simp only [World.heap_drewN, World.cell?_drewN, World.frozen?_drewN] at hc7 hf7); have hz7 := hb7.size; (try simp at hz7); (try have hy7_0 : w.heap.size < w7.heap.size := by omega); (try have hy7_1 : w.heap.size + 1 < w7.heap.size := by omega); (try have hy7_2 : w.heap.size + 2 < w7.heap.size := by omega); (try have hy7_3 : w.heap.size + 3 < w7.heap.size := by omega); (try have hx7_0 : w.heap.size ≤ w7.heap.size := by omega); (try have hx7_1 : w.heap.size + 1 ≤ w7.heap.size := by omega); (try have hx7_2 : w.heap.size + 2 ≤ w7.heap.size := by omega); (try have hu7_wr_0 : wr.heap.size < w7.heap.size := by omega); (try have hu7_wr_1 : wr.heap.size + 1 < w7.heap.size := by omega))
          go_wp2
          go_roundw
          case rel => exact ⟨i + 1, by omega, by go_num, by rw [HS.out], by (repeat (first | with_reducible exact Below.refl _ _ | ((with_reducible refine Below.alloc1 ?_ ?_ _); (· first | omega | (simp; done) | (simp; omega))) | (with_reducible refine Below.drew ?_) | (with_reducible refine below_drewN' ?_ _) | ((with_reducible refine Below.setCell1 ?_ ?_ _); (· first | omega | (simp; done) | (simp; omega))) | ((with_reducible refine Below.after (by assumption) ?_ ?_); (· first | omega | (simp; done) | (simp; omega))))), by omega, by simp [go_sem, *], by simp [go_sem, *], by simp [go_sem, *], by simp [go_sem, *], by simp [go_sem, *]⟩
          case measure => simp [intOf]; omega
        · have hs2 : overI (ms.take (i + 1)) r = m := by rw [hs]; omega
          have HS := hid hs2
          have hd : decide (m < x.n) = false := by simp; omega
          clear hs hs2 hgt
          go_wp2
          (refine wp_region_ext (by kernel_rfl) (by kernel_rfl) ?_; (repeat (go_big_quiet_step (first | (go_at_call 61; with_reducible exact Calls.ext_of (refOfG lo hi b1 b2 r _ hl hh HR)) | (go_at_call 60; with_reducible exact Calls.ext_of (refHasG r x.k.bits true _ (Key.bits_lt _) HQ))))); refine wpQuiet_nil ?_; rintro w7 ⟨x7, hx7⟩; have hb7 := x7.b; rw [← hx7] at hb7; clear hx7 x7; obtain ⟨hc7, hf7⟩ := bcell hb7; (try simp only [World.heap_drewN, World.cell?_drewN, World.frozen?_drewN] at hc7 hf7); have hz7 := hb7.size; (try simp at hz7); (try have hy7_0 : w.heap.size < w7.heap.size := by omega); (try have hy7_1 : w.heap.size + 1 < w7.heap.size := by omega); (try have hy7_2 : w.heap.size + 2 < w7.heap.size := by omega); (try have hy7_3 : w.heap.size + 3 < w7.heap.size := by omega); (try have hx7_0 : w.heap.size ≤ w7.heap.size := by omega); (try have hx7_1 : w.heap.size + 1 ≤ w7.heap.size := by omega); (try have hx7_2 : w.heap.size + 2 ≤ w7.heap.size := by omega); (try have hu7_wr_0 : wr.heap.size < w7.heap.size := by omega); (try have hu7_wr_1 : wr.heap.size + 1 < w7.heap.size := by omega))
          go_wp2
          go_roundw
          case rel => exact ⟨i + 1, by omega, by go_num, by rw [HS.out], by (repeat (first | with_reducible exact Below.refl _ _ | ((with_reducible refine Below.alloc1 ?_ ?_ _); (· first | omega | (simp; done) | (simp; omega))) | (with_reducible refine Below.drew ?_) | (with_reducible refine below_drewN' ?_ _) | ((with_reducible refine Below.setCell1 ?_ ?_ _); (· first | omega | (simp; done) | (simp; omega))) | ((with_reducible refine Below.after (by assumption) ?_ ?_); (· first | omega | (simp; done) | (simp; omega))))), by omega, by simp [go_sem, *], by simp [go_sem, *], by simp [go_sem, *], by simp [go_sem, *], by simp [go_sem, *]⟩
          case measure => simp [intOf]; omega
    · obtain rfl : i = n := by omega
      go_wp2
      go_ret
      exact ⟨by rw [HT.out]; rfl, by (repeat (first | with_reducible exact Below.refl _ _ | ((with_reducible refine Below.alloc1 ?_ ?_ _); (· first | omega | (simp; done) | (simp; omega))) | (with_reducible refine Below.drew ?_) | (with_reducible refine below_drewN' ?_ _) | ((with_reducible refine Below.setCell1 ?_ ?_ _); (· first | omega | (simp; done) | (simp; omega))) | ((with_reducible refine Below.after (by assumption) ?_ ?_); (· first | omega | (simp; done) | (simp; omega)))))⟩
end Go.Proofs.Ytnlaepogkepnhaa
