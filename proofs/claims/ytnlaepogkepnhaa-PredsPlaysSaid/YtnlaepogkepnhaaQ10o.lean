/- The document's table of layer 10: At. -/
import Derived.Test.YtnlaepogkepnhaaQ10d
namespace Go.Proofs.Ytnlaepogkepnhaa.Q
set_option linter.unusedVariables false
open Go.RowKit Fl

theorem refHasK (k : RK) (key : Nat) (v : Bool) (w : World) (hk : key < 2 ^ 64) (hv : Hid (hasB k.rg key = v)) :
    Calls Try.prog 60 #[.agg #[.int .u64 (kcode k.lo), .int .u64 (kcode k.hi)], .float .f64 key] w (Ret (.bool v) w) := refHas_is k.rg key v w hk hv

set_option maxRecDepth 100000 in
theorem refAt_any (most : Int) (a : Option Addr) (c : Nat) (ms : List ItV) (key : Nat) (w : World) (hm : MAt w a ms) (hk : key < 2 ^ 64) :
    Calls Try.prog 44 #[.agg #[.int .i64 most, .slice a ms.length c], .float .f64 key] w (Ret (.int .i64 (atI ms key)) w) := by
  obtain ⟨n, hn⟩ : ∃ n, ms.length = n := ⟨_, rfl⟩
  have HM := hid hm
  have hlen := hm.len
  rw [hn] at hlen ⊢
  have HN := hid hn
  have HT : Hid (ms.take n = ms) := hid (by rw [← hn]; exact List.take_length)
  clear hm hn
  go_enter Try.func44, Try.ntmps44
  go_wp2
  go_loopw [6, 5] (fun iv nv wr => ∃ i : Nat, i ≤ n ∧ iv = .int .i64 i ∧ nv = .int .i64 (atI (ms.take i) key) ∧ Below w.heap.size w wr ∧ w.heap.size < wr.heap.size ∧ wr.cell? ⟨w.heap.size, 1, none⟩ = some (.slice a n c)) (fun iv _ _ => n - (intOf iv).toNat)
  case atStart => exact ⟨0, Nat.zero_le _, rfl, rfl, by (repeat (first | with_reducible exact Below.refl _ _ | ((with_reducible refine Below.alloc1 ?_ ?_ _); (· first | omega | (simp; done) | (simp; omega))) | (with_reducible refine Below.drew ?_) | (with_reducible refine below_drewN' ?_ _) | ((with_reducible refine Below.setCell1 ?_ ?_ _); (· first | omega | (simp; done) | (simp; omega))) | ((with_reducible refine Below.after (by assumption) ?_ ?_); (· first | omega | (simp; done) | (simp; omega))))), by simp, by simp [go_sem]⟩
  case round =>
    obtain ⟨i, hin, rfl, rfl, hb, hz0, hc⟩ := hrel
    by_cases hlt : i < n
    · have hlt' : (i : Int) < (n : Int) := by omega
      have hil : i < ms.length := by rw [HN.out]; exact hlt
      obtain ⟨g, rfl, hg, hcs⟩ := HM.out.row (by omega)
      obtain ⟨d0, d1, d2⟩ := hcs i hil
      have d0 := (hb.cell (p := ⟨g, _, none⟩) hg).trans d0
      have d1 := (hb.cell (p := ⟨g, _, none⟩) hg).trans d1
      have d2 := (hb.cell (p := ⟨g, _, none⟩) hg).trans d2
      have hgw : g < wr.heap.size := Nat.lt_of_lt_of_le hg hb.size
      have hs := at_step (it_some hil) (key := key)
      generalize ms[i]?.getD default = x at *
      clear hcs hil
      obtain ⟨q, hq⟩ : ∃ q, hasB x.k.rg key = q := ⟨_, rfl⟩
      rw [hq] at hs
      have HQ := hid hq
      clear hq
      obtain ⟨m, hm⟩ : ∃ m, atI (ms.take i) key = m := ⟨_, rfl⟩
      rw [hm] at hs ⊢
      clear hm
      cases q
      · simp only [Bool.false_eq_true, if_false] at hs
        have HS := hid hs
        clear hs
        go_wp2_with (go_at_call 60; (with_reducible refine (refHasK x.k key false _ hk HQ).mono ?_); rintro e w7 ⟨rfl, hb7⟩; obtain ⟨hc7, hf7⟩ := bcell hb7; (try simp only [World.heap_drewN, World.cell?_drewN, World.frozen?_drewN] at hc7 hf7); have hz7 := hb7.size; (try simp at hz7); (try have hy7_0 : w.heap.size < w7.heap.size := by omega); (try have hy7_1 : w.heap.size + 1 < w7.heap.size := by omega); (try have hy7_2 : w.heap.size + 2 < w7.heap.size := by omega); (try have hy7_3 : w.heap.size + 3 < w7.heap.size := by omega); (try have hx7_0 : w.heap.size ≤ w7.heap.size := by omega); (try have hx7_1 : w.heap.size + 1 ≤ w7.heap.size := by omega); (try have hx7_2 : w.heap.size + 2 ≤ w7.heap.size := by omega))
        go_roundw
        case rel => exact ⟨i + 1, by omega, by go_num, by rw [HS.out], by (repeat (first | with_reducible exact Below.refl _ _ | ((with_reducible refine Below.alloc1 ?_ ?_ _); (· first | omega | (simp; done) | (simp; omega))) | (with_reducible refine Below.drew ?_) | (with_reducible refine below_drewN' ?_ _) | ((with_reducible refine Below.setCell1 ?_ ?_ _); (· first | omega | (simp; done) | (simp; omega))) | ((with_reducible refine Below.after (by assumption) ?_ ?_); (· first | omega | (simp; done) | (simp; omega))))), by omega, by simp [go_sem, *]⟩
        case measure => simp [intOf]; omega
      · simp only [if_true] at hs
        by_cases hgt : m < x.n
        · have hs2 : atI (ms.take (i + 1)) key = x.n := by rw [hs]; omega
          have HS := hid hs2
          have hd : decide (m < x.n) = true := by simp; exact hgt
          clear hs hs2
          go_wp2_with (go_at_call 60; (with_reducible refine (refHasK x.k key true _ hk HQ).mono ?_); rintro e w7 ⟨rfl, hb7⟩; obtain ⟨hc7, hf7⟩ := bcell hb7; (try simp only [World.heap_drewN, World.cell?_drewN, World.frozen?_drewN] at hc7 hf7); have hz7 := hb7.size; (try simp at hz7); (try have hy7_0 : w.heap.size < w7.heap.size := by omega); (try have hy7_1 : w.heap.size + 1 < w7.heap.size := by omega); (try have hy7_2 : w.heap.size + 2 < w7.heap.size := by omega); (try have hy7_3 : w.heap.size + 3 < w7.heap.size := by omega); (try have hx7_0 : w.heap.size ≤ w7.heap.size := by omega); (try have hx7_1 : w.heap.size + 1 ≤ w7.heap.size := by omega); (try have hx7_2 : w.heap.size + 2 ≤ w7.heap.size := by omega))
          go_roundw
          case rel => exact ⟨i + 1, by omega, by go_num, by rw [HS.out], by (repeat (first | with_reducible exact Below.refl _ _ | ((with_reducible refine Below.alloc1 ?_ ?_ _); (· first | omega | (simp; done) | (simp; omega))) | (with_reducible refine Below.drew ?_) | (with_reducible refine below_drewN' ?_ _) | ((with_reducible refine Below.setCell1 ?_ ?_ _); (· first | omega | (simp; done) | (simp; omega))) | ((with_reducible refine Below.after (by assumption) ?_ ?_); (· first | omega | (simp; done) | (simp; omega))))), by omega, by simp [go_sem, *]⟩
          case measure => simp [intOf]; omega
        · have hs2 : atI (ms.take (i + 1)) key = m := by rw [hs]; omega
          have HS := hid hs2
          have hd : decide (m < x.n) = false := by simp; omega
          clear hs hs2 hgt
          go_wp2_with (go_at_call 60; (with_reducible refine (refHasK x.k key true _ hk HQ).mono ?_); rintro e w7 ⟨rfl, hb7⟩; obtain ⟨hc7, hf7⟩ := bcell hb7; (try simp only [World.heap_drewN, World.cell?_drewN, World.frozen?_drewN] at hc7 hf7); have hz7 := hb7.size; (try simp at hz7); (try have hy7_0 : w.heap.size < w7.heap.size := by omega); (try have hy7_1 : w.heap.size + 1 < w7.heap.size := by omega); (try have hy7_2 : w.heap.size + 2 < w7.heap.size := by omega); (try have hy7_3 : w.heap.size + 3 < w7.heap.size := by omega); (try have hx7_0 : w.heap.size ≤ w7.heap.size := by omega); (try have hx7_1 : w.heap.size + 1 ≤ w7.heap.size := by omega); (try have hx7_2 : w.heap.size + 2 ≤ w7.heap.size := by omega))
          go_roundw
          case rel => exact ⟨i + 1, by omega, by go_num, by rw [HS.out], by (repeat (first | with_reducible exact Below.refl _ _ | ((with_reducible refine Below.alloc1 ?_ ?_ _); (· first | omega | (simp; done) | (simp; omega))) | (with_reducible refine Below.drew ?_) | (with_reducible refine below_drewN' ?_ _) | ((with_reducible refine Below.setCell1 ?_ ?_ _); (· first | omega | (simp; done) | (simp; omega))) | ((with_reducible refine Below.after (by assumption) ?_ ?_); (· first | omega | (simp; done) | (simp; omega))))), by omega, by simp [go_sem, *]⟩
          case measure => simp [intOf]; omega
    · obtain rfl : i = n := by omega
      go_wp2
      go_ret
      exact ⟨by rw [HT.out]; rfl, by (repeat (first | with_reducible exact Below.refl _ _ | ((with_reducible refine Below.alloc1 ?_ ?_ _); (· first | omega | (simp; done) | (simp; omega))) | (with_reducible refine Below.drew ?_) | (with_reducible refine below_drewN' ?_ _) | ((with_reducible refine Below.setCell1 ?_ ?_ _); (· first | omega | (simp; done) | (simp; omega))) | ((with_reducible refine Below.after (by assumption) ?_ ?_); (· first | omega | (simp; done) | (simp; omega)))))⟩
end Go.Proofs.Ytnlaepogkepnhaa.Q
