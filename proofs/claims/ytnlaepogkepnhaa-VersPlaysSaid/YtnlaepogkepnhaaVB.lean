/- Where a key stands among items: slices.BinarySearchFunc, (*vers.Table).place. -/
import Derived.Test.YtnlaepogkepnhaaVI
import Derived.Test.YtnlaepogkepnhaaC0
namespace Go.Proofs.Ytnlaepogkepnhaa
set_option linter.unusedVariables false
open Go.RowKit Fl

/-- A key and its number. -/
structure ItV where
  k : Key
  n : Int
instance : Inhabited ItV := ⟨⟨kzero, 0⟩⟩
def ItV.enc (x : ItV) : List Value := [.float .f64 x.k.bits, .int .i64 x.n]
theorem ItV.enc_len (x : ItV) : x.enc.length = 2 := rfl
theorem ItV.enc_one (x : ItV) : ∀ u ∈ x.enc, u.oneCell' = true := by intro u hu; simp [ItV.enc] at hu; rcases hu with rfl | rfl <;> rfl

/-- A slice's row holds items, to be read. -/
structure IAt (w : World) (a : Option Addr) (xs : List ItV) : Prop where
  row : xs = [] ∨ ∃ b, a = some ⟨b, 0, none⟩ ∧ b < w.heap.size ∧ ∀ i, i < xs.length → w.cell? ⟨b, i * 2, none⟩ = some (.float .f64 (xs[i]?.getD default).k.bits) ∧ w.cell? ⟨b, i * 2 + 1, none⟩ = some (.int .i64 (xs[i]?.getD default).n)
  len : xs.length ≤ 4294967296

theorem vPlace1_any (k : Key) (n : Int) (kb : Nat) (w : World) (hk : kb < 2 ^ 64) :
    Calls Try.prog 78 #[.agg #[.float .f64 k.bits, .int .i64 n], .float .f64 kb] w (Ret (.int .i64 (cmpI (codeOf k.bits) (codeOf kb))) w) := by
  have H := fun W => floCmp_any k.bits kb (Key.bits_lt k) hk W
  generalize cmpI (codeOf k.bits) (codeOf kb) = r at *
  go_enter Try.func78, Try.ntmps78
  go_wp2_with (go_at_call 69; (with_reducible refine (H _).mono ?_); rintro e w' ⟨rfl, rfl⟩)
  go_ret
  exact ⟨rfl, by (repeat (first | with_reducible exact Below.refl _ _ | ((with_reducible refine Below.alloc1 ?_ ?_ _); (· first | omega | (simp; done) | (simp; omega))) | (with_reducible refine Below.drew ?_) | (with_reducible refine below_drewN' ?_ _) | ((with_reducible refine Below.setCell1 ?_ ?_ _); (· first | omega | (simp; done) | (simp; omega))) | ((with_reducible refine Below.after (by assumption) ?_ ?_); (· first | omega | (simp; done) | (simp; omega)))))⟩

/-- Where a key stands, or would. -/
def plcI (its : List ItV) (kb : Nat) : Nat := its.findIdx fun x => !decide (codeOf x.k.bits < codeOf kb)
def plcB (its : List ItV) (kb : Nat) : Bool := match its[plcI its kb]? with | some x => decide (codeOf x.k.bits = codeOf kb) | none => false

set_option maxRecDepth 100000 in
theorem vSearch_row (b c n kb : Nat) (its : List ItV) (w : World) (hk : kb < 2 ^ 64) (hn : its.length = n) (hlen : n ≤ 4294967296)
    (hb : b < w.heap.size) (hc : ∀ i, i < its.length → w.cell? ⟨b, i * 2, none⟩ = some (.float .f64 (its[i]?.getD default).k.bits) ∧ w.cell? ⟨b, i * 2 + 1, none⟩ = some (.int .i64 (its[i]?.getD default).n))
    (hmono : ∀ s t : Nat, s ≤ t → ∀ x y, its[s]? = some x → its[t]? = some y → codeOf y.k.bits < codeOf kb → codeOf x.k.bits < codeOf kb) :
    Calls Try.prog 77 #[.slice (some ⟨b, 0, none⟩) n c, .float .f64 kb, .func (.func 78) #[] #[]] w (Ret (.tuple #[.int .i64 (plcI its kb), .bool (plcB its kb)]) w) := by
  have HC := hid hc; have HN := hid hn; have HM := hid hmono
  clear hc hn hmono
  go_enter Try.func77, Try.ntmps77
  go_wp2
  go_loopw [9, 10] (fun i j wr => ∃ s t : Nat, s ≤ t ∧ t ≤ n ∧ i = .int .i64 s ∧ j = .int .i64 t ∧ Hid (∀ m : Nat, m < s → ∀ x, its[m]? = some x → codeOf x.k.bits < codeOf kb) ∧ Hid (∀ m : Nat, t ≤ m → ∀ x, its[m]? = some x → codeOf kb ≤ codeOf x.k.bits) ∧ Below w.heap.size w wr) (fun i j _ => (intOf j).toNat - (intOf i).toNat)
  case atStart => exact ⟨0, n, Nat.zero_le _, Nat.le_refl _, rfl, rfl, hid fun m hm => absurd hm (Nat.not_lt_zero _), hid fun m hm x hx => by have := (List.getElem?_eq_some_iff.1 hx).1; have := HN.out; omega, Below.refl _ _⟩
  case round =>
    obtain ⟨s, t, hst, htn, rfl, rfl, HA, HZ, hbw⟩ := hrel
    have hsz := hbw.size
    by_cases hlt : s < t
    · have hlt' : (s : Int) < (t : Int) := by omega
      have hh1 : s ≤ (s + t) / 2 := by omega
      have hh2 : (s + t) / 2 < t := by omega
      have hmt : (s + t) / 2 < its.length := by rw [HN.out]; omega
      obtain ⟨c0, c1⟩ := HC.out ((s + t) / 2) hmt
      have hkx : Hid (its[(s + t) / 2]? = some (its[(s + t) / 2]?.getD default)) := hid (by rw [List.getElem?_eq_getElem hmt]; rfl)
      have d0 := (hbw.cell (p := ⟨b, _, none⟩) hb).trans c0
      have d1 := (hbw.cell (p := ⟨b, _, none⟩) hb).trans c1
      clear c0 c1
      generalize its[(s + t) / 2]?.getD default = x at *
      have H := fun W => vPlace1_any x.k x.n kb W hk
      have hbb : b < wr.heap.size := by omega
      by_cases hc : codeOf x.k.bits < codeOf kb
      · have hr : cmpI (codeOf x.k.bits) (codeOf kb) = -1 := by simp [cmpI, hc]
        have hcH := hid hc
        simp only [hr] at H
        clear hr hc
        go_wp2_with (go_at_call 78; (with_reducible refine (H _).mono ?_); rintro e w1 ⟨rfl, hb1⟩; obtain ⟨hc1, hf1⟩ := bcell hb1; (try simp only [World.heap_drewN, World.cell?_drewN, World.frozen?_drewN] at hc1 hf1); have hz1 := hb1.size; (try simp at hz1); (try have hy1_0 : w.heap.size < w1.heap.size := by omega); (try have hy1_1 : w.heap.size + 1 < w1.heap.size := by omega); (try have hy1_2 : w.heap.size + 2 < w1.heap.size := by omega); (try have hy1_3 : w.heap.size + 3 < w1.heap.size := by omega); (try have hx1_0 : w.heap.size ≤ w1.heap.size := by omega); (try have hx1_1 : w.heap.size + 1 ≤ w1.heap.size := by omega); (try have hx1_2 : w.heap.size + 2 ≤ w1.heap.size := by omega))
        go_roundw
        case rel =>
          refine ⟨(s + t) / 2 + 1, t, by omega, htn, by first | go_num | (congr 1; omega), rfl, hid fun m hm y hy => ?_, HZ, by (repeat (first | with_reducible exact Below.refl _ _ | ((with_reducible refine Below.alloc1 ?_ ?_ _); (· first | omega | (simp; done) | (simp; omega))) | (with_reducible refine Below.drew ?_) | (with_reducible refine below_drewN' ?_ _) | ((with_reducible refine Below.setCell1 ?_ ?_ _); (· first | omega | (simp; done) | (simp; omega))) | ((with_reducible refine Below.after (by assumption) ?_ ?_); (· first | omega | (simp; done) | (simp; omega)))))⟩
          exact HM.out m ((s + t) / 2) (by omega) y x hy hkx.out hcH.out
        case measure => simp [intOf]; omega
      · have hr : decide (cmpI (codeOf x.k.bits) (codeOf kb) < 0) = false := by simp [cmpI, hc]; split <;> omega
        have hcH := hid hc
        generalize cmpI (codeOf x.k.bits) (codeOf kb) = r at *
        clear hc
        go_wp2_with (go_at_call 78; (with_reducible refine (H _).mono ?_); rintro e w1 ⟨rfl, hb1⟩; obtain ⟨hc1, hf1⟩ := bcell hb1; (try simp only [World.heap_drewN, World.cell?_drewN, World.frozen?_drewN] at hc1 hf1); have hz1 := hb1.size; (try simp at hz1); (try have hy1_0 : w.heap.size < w1.heap.size := by omega); (try have hy1_1 : w.heap.size + 1 < w1.heap.size := by omega); (try have hy1_2 : w.heap.size + 2 < w1.heap.size := by omega); (try have hy1_3 : w.heap.size + 3 < w1.heap.size := by omega); (try have hx1_0 : w.heap.size ≤ w1.heap.size := by omega); (try have hx1_1 : w.heap.size + 1 ≤ w1.heap.size := by omega); (try have hx1_2 : w.heap.size + 2 ≤ w1.heap.size := by omega))
        go_roundw
        case rel =>
          refine ⟨s, (s + t) / 2, by omega, by omega, rfl, by first | go_num | (congr 1; omega), HA, hid fun m hm y hy => ?_, by (repeat (first | with_reducible exact Below.refl _ _ | ((with_reducible refine Below.alloc1 ?_ ?_ _); (· first | omega | (simp; done) | (simp; omega))) | (with_reducible refine Below.drew ?_) | (with_reducible refine below_drewN' ?_ _) | ((with_reducible refine Below.setCell1 ?_ ?_ _); (· first | omega | (simp; done) | (simp; omega))) | ((with_reducible refine Below.after (by assumption) ?_ ?_); (· first | omega | (simp; done) | (simp; omega)))))⟩
          have := HM.out ((s + t) / 2) m hm x y hkx.out hy
          have := hcH.out
          omega
        case measure => simp [intOf]; omega
    · obtain rfl : s = t := by omega
      have hp : plcI its kb = s := by
        unfold plcI
        by_cases hsn : s < its.length
        · rw [List.findIdx_eq hsn]
          refine ⟨?_, fun j hj => ?_⟩
          · have := HZ.out s (Nat.le_refl _) _ (List.getElem?_eq_getElem hsn)
            simpa using this
          · have := HA.out j hj _ (List.getElem?_eq_getElem (by omega))
            simpa using this
        · have hsn' : s = its.length := by have := HN.out; omega
          rw [hsn']
          exact List.findIdx_eq_length.2 fun x hx => by
            obtain ⟨j, hj⟩ := List.mem_iff_getElem?.1 hx
            have hjl := (List.getElem?_eq_some_iff.1 hj).1
            have := HA.out j (by omega) x hj
            simpa using this
      by_cases hsn : s < n
      · have hsl : s < its.length := by rw [HN.out]; exact hsn
        have hsn' : (s : Int) < (n : Int) := by omega
        obtain ⟨c0, c1⟩ := HC.out s hsl
        have hkx : Hid (its[s]? = some (its[s]?.getD default)) := hid (by rw [List.getElem?_eq_getElem hsl]; rfl)
        have d0 := (hbw.cell (p := ⟨b, _, none⟩) hb).trans c0
        have d1 := (hbw.cell (p := ⟨b, _, none⟩) hb).trans c1
        clear c0 c1
        have hq : plcB its kb = decide (codeOf (its[s]?.getD default).k.bits = codeOf kb) := by
          unfold plcB; rw [hp, List.getElem?_eq_getElem hsl]; rfl
        generalize its[s]?.getD default = x at *
        have hbb : b < wr.heap.size := by omega
        have H := fun W => vPlace1_any x.k x.n kb W hk
        have he : decide (codeOf x.k.bits = codeOf kb) = (cmpI (codeOf x.k.bits) (codeOf kb) == 0) := by
          unfold cmpI; split
          · simp; omega
          · split
            · simp; omega
            · simp; omega
        rw [he] at hq
        have HP := hid hp; have HQ := hid hq
        clear hp hq he
        generalize cmpI (codeOf x.k.bits) (codeOf kb) = r at *
        go_wp2_with (go_at_call 78; (with_reducible refine (H _).mono ?_); rintro e w1 ⟨rfl, hb1⟩; obtain ⟨hc1, hf1⟩ := bcell hb1; (try simp only [World.heap_drewN, World.cell?_drewN, World.frozen?_drewN] at hc1 hf1); have hz1 := hb1.size; (try simp at hz1); (try have hy1_0 : w.heap.size < w1.heap.size := by omega); (try have hy1_1 : w.heap.size + 1 < w1.heap.size := by omega); (try have hy1_2 : w.heap.size + 2 < w1.heap.size := by omega); (try have hy1_3 : w.heap.size + 3 < w1.heap.size := by omega); (try have hx1_0 : w.heap.size ≤ w1.heap.size := by omega); (try have hx1_1 : w.heap.size + 1 ≤ w1.heap.size := by omega); (try have hx1_2 : w.heap.size + 2 ≤ w1.heap.size := by omega))
        go_ret2
        exact ⟨by rw [HP.out, HQ.out]; rfl, by (repeat (first | with_reducible exact Below.refl _ _ | ((with_reducible refine Below.alloc1 ?_ ?_ _); (· first | omega | (simp; done) | (simp; omega))) | (with_reducible refine Below.drew ?_) | (with_reducible refine below_drewN' ?_ _) | ((with_reducible refine Below.setCell1 ?_ ?_ _); (· first | omega | (simp; done) | (simp; omega))) | ((with_reducible refine Below.after (by assumption) ?_ ?_); (· first | omega | (simp; done) | (simp; omega)))))⟩
      · have hsn' : decide ((s : Int) < (n : Int)) = false := by simp; omega
        have hq : plcB its kb = false := by
          unfold plcB; rw [hp, List.getElem?_eq_none (by have := HN.out; omega)]
        have HP := hid hp; have HQ := hid hq
        clear hp hq
        go_wp2
        go_ret2
        exact ⟨by rw [HP.out, HQ.out]; rfl, by (repeat (first | with_reducible exact Below.refl _ _ | ((with_reducible refine Below.alloc1 ?_ ?_ _); (· first | omega | (simp; done) | (simp; omega))) | (with_reducible refine Below.drew ?_) | (with_reducible refine below_drewN' ?_ _) | ((with_reducible refine Below.setCell1 ?_ ?_ _); (· first | omega | (simp; done) | (simp; omega))) | ((with_reducible refine Below.after (by assumption) ?_ ?_); (· first | omega | (simp; done) | (simp; omega)))))⟩
end Go.Proofs.Ytnlaepogkepnhaa
