/- Where a form stands among items: slices.BinarySearchFunc. -/
import Derived.Test.YtnlaepogkepnhaaQI
import Derived.Test.YtnlaepogkepnhaaB2
import Derived.Test.YtnlaepogkepnhaaG0
namespace Go.Proofs.Ytnlaepogkepnhaa.Q
open Go.RowKit Fl

/-- The keys of a form that is not empty. -/
structure RK where
  lo : Key
  hi : Key
  le : lo.v ≤ hi.v
instance : Inhabited RK := ⟨⟨kzero, kzero, Int.le_refl _⟩⟩
def RK.rg (k : RK) : Rg := some (k.lo, k.hi)
theorem RK.ok (k : RK) : okR k.rg := k.le
theorem RK.ext' {a b : RK} (h1 : a.lo = b.lo) (h2 : a.hi = b.hi) : a = b := by cases a; cases b; simp only at h1 h2; subst h1; subst h2; rfl

/-- The order of forms, as that of whole numbers. -/
def codeR : Rg → Int
  | none => -1000000000000000000000000000000000000000000000
  | some (l, h) => l.v * 36893488147419103232 + h.v
theorem key_abs (k : Key) : -9223372036854775808 < k.v ∧ k.v < 9223372036854775808 := by have := k.lo; have := k.hi; unfold inf at *; omega
theorem codeR_some (l h l' h' : Key) : codeR (some (l, h)) < codeR (some (l', h')) ↔ l.v < l'.v ∨ (l.v = l'.v ∧ h.v < h'.v) := by
  have := key_abs l; have := key_abs h; have := key_abs l'; have := key_abs h'
  simp only [codeR]; omega
theorem codeR_inj (l h l' h' : Key) : codeR (some (l, h)) = codeR (some (l', h')) ↔ l = l' ∧ h = h' := by
  have := key_abs l; have := key_abs h; have := key_abs l'; have := key_abs h'
  constructor
  · intro e
    simp only [codeR] at e
    exact ⟨Key.ext' (by omega), Key.ext' (by omega)⟩
  · rintro ⟨rfl, rfl⟩; rfl
theorem codeR_none (l h : Key) : codeR none < codeR (some (l, h)) := by
  have := key_abs l; have := key_abs h
  simp only [codeR]; omega
theorem rk_inj {a b : RK} (h : codeR a.rg = codeR b.rg) : a = b := by
  obtain ⟨h1, h2⟩ := (codeR_inj _ _ _ _).1 h
  exact RK.ext' h1 h2
theorem cmpR_code (r s : Rg) : cmpR r s = cmpI (codeR r) (codeR s) := by
  rcases r with _ | ⟨l, h⟩ <;> rcases s with _ | ⟨l', h'⟩
  · simp [cmpR, cmpI]
  · have := codeR_none l' h'
    simp [cmpR, cmpI, this]
  · have := codeR_none l h
    simp [cmpR, cmpI, this]; omega
  · have h1 := codeR_some l h l' h'
    have h2 := codeR_some l' h' l h
    unfold cmpR orI cmpI
    simp only [h1, h2]
    rcases Int.lt_trichotomy l.v l'.v with e | e | e
    · rw [if_pos e]; simp [e]
    · rw [e]; simp
    · rw [if_neg (by omega), if_pos e]; simp [e]; omega

/-- A form and its number. -/
structure ItV where
  k : RK
  n : Int
instance : Inhabited ItV := ⟨⟨default, 0⟩⟩
def ItV.enc (x : ItV) : List Value := [.float .f64 x.k.lo.bits, .float .f64 x.k.hi.bits, .bool false, .bool false, .int .i64 x.n]
theorem ItV.enc_len (x : ItV) : x.enc.length = 5 := rfl
theorem ItV.enc_one (x : ItV) : ∀ u ∈ x.enc, u.oneCell' = true := by intro u hu; simp [ItV.enc] at hu; rcases hu with rfl | rfl | rfl | rfl | rfl <;> rfl

/-- A slice's row holds items, to be read. -/
structure IAt (w : World) (a : Option Addr) (xs : List ItV) : Prop where
  row : xs = [] ∨ ∃ b, a = some ⟨b, 0, none⟩ ∧ b < w.heap.size ∧ ∀ i, i < xs.length → w.cell? ⟨b, i * 5, none⟩ = some (.float .f64 (xs[i]?.getD default).k.lo.bits) ∧ w.cell? ⟨b, i * 5 + 1, none⟩ = some (.float .f64 (xs[i]?.getD default).k.hi.bits) ∧ w.cell? ⟨b, i * 5 + 2, none⟩ = some (.bool false) ∧ w.cell? ⟨b, i * 5 + 3, none⟩ = some (.bool false) ∧ w.cell? ⟨b, i * 5 + 4, none⟩ = some (.int .i64 (xs[i]?.getD default).n)
  len : xs.length ≤ 4294967296

theorem cmp_rg (k : RK) (kb : Rg) (w : World) (hk : okR kb) :
    Calls Try.prog 37 #[.agg #[.float .f64 k.lo.bits, .float .f64 k.hi.bits, .bool false, .bool false], .agg #[.float .f64 (slo kb), .float .f64 (shi kb), .bool (sop kb), .bool (sop kb)]] w (Ret (.int .i64 (cmpI (codeR k.rg) (codeR kb))) w) := by
  have h := cmp_any k.lo.bits k.hi.bits (slo kb) (shi kb) false false (sop kb) (sop kb) w (Key.bits_lt _) (Key.bits_lt _) (slo_lt kb) (shi_lt kb)
  rw [canonS_canon _ _ k.le, canonS_gen hk, cmpR_code] at h
  exact h
theorem vPlace1_any (k : RK) (n : Int) (kb : Rg) (w : World) (hk : okR kb) :
    Calls Try.prog 63 #[.agg #[.float .f64 k.lo.bits, .float .f64 k.hi.bits, .bool false, .bool false, .int .i64 n], .agg #[.float .f64 (slo kb), .float .f64 (shi kb), .bool (sop kb), .bool (sop kb)]] w (Ret (.int .i64 (cmpI (codeR k.rg) (codeR kb))) w) := by
  have H := fun W => cmp_rg k kb W hk
  generalize cmpI (codeR k.rg) (codeR kb) = r at *
  generalize slo kb = a at *
  generalize shi kb = b at *
  generalize sop kb = c at *
  go_enter Try.func63, Try.ntmps63
  go_wp2_with (go_at_call 37; (with_reducible refine (H _).mono ?_); rintro e w1 ⟨rfl, hb1⟩; obtain ⟨hc1, hf1⟩ := bcell hb1; (try simp only [World.heap_drewN, World.cell?_drewN, World.frozen?_drewN] at hc1 hf1); have hz1 := hb1.size; (try simp at hz1); (try have hy1_0 : w.heap.size < w1.heap.size := by omega); (try have hy1_1 : w.heap.size + 1 < w1.heap.size := by omega); (try have hy1_2 : w.heap.size + 2 < w1.heap.size := by omega); (try have hy1_3 : w.heap.size + 3 < w1.heap.size := by omega); (try have hx1_0 : w.heap.size ≤ w1.heap.size := by omega); (try have hx1_1 : w.heap.size + 1 ≤ w1.heap.size := by omega); (try have hx1_2 : w.heap.size + 2 ≤ w1.heap.size := by omega))
  go_ret
  exact ⟨rfl, by (repeat (first | with_reducible exact Below.refl _ _ | ((with_reducible refine Below.alloc1 ?_ ?_ _); (· first | omega | (simp; done) | (simp; omega))) | (with_reducible refine Below.drew ?_) | (with_reducible refine below_drewN' ?_ _) | ((with_reducible refine Below.setCell1 ?_ ?_ _); (· first | omega | (simp; done) | (simp; omega))) | ((with_reducible refine Below.after (by assumption) ?_ ?_); (· first | omega | (simp; done) | (simp; omega)))))⟩

/-- Where a key stands, or would. -/
def plcI (its : List ItV) (kb : Rg) : Nat := its.findIdx fun x => !decide (codeR x.k.rg < codeR kb)
def plcB (its : List ItV) (kb : Rg) : Bool := match its[plcI its kb]? with | some x => decide (codeR x.k.rg = codeR kb) | none => false

set_option maxRecDepth 100000 in
theorem vSearch_row (b c n : Nat) (kb : Rg) (its : List ItV) (w : World) (hk : okR kb) (hn : its.length = n) (hlen : n ≤ 4294967296)
    (hb : b < w.heap.size) (hc : ∀ i, i < its.length → w.cell? ⟨b, i * 5, none⟩ = some (.float .f64 (its[i]?.getD default).k.lo.bits) ∧ w.cell? ⟨b, i * 5 + 1, none⟩ = some (.float .f64 (its[i]?.getD default).k.hi.bits) ∧ w.cell? ⟨b, i * 5 + 2, none⟩ = some (.bool false) ∧ w.cell? ⟨b, i * 5 + 3, none⟩ = some (.bool false) ∧ w.cell? ⟨b, i * 5 + 4, none⟩ = some (.int .i64 (its[i]?.getD default).n))
    (hmono : ∀ s t : Nat, s ≤ t → ∀ x y, its[s]? = some x → its[t]? = some y → codeR y.k.rg < codeR kb → codeR x.k.rg < codeR kb) :
    Calls Try.prog 62 #[.slice (some ⟨b, 0, none⟩) n c, .agg #[.float .f64 (slo kb), .float .f64 (shi kb), .bool (sop kb), .bool (sop kb)], .func (.func 63) #[] #[]] w (Ret (.tuple #[.int .i64 (plcI its kb), .bool (plcB its kb)]) w) := by
  have HC := hid hc; have HN := hid hn; have HM := hid hmono
  have HK := hid hk
  clear hc hn hmono hk
  go_enter Try.func62, Try.ntmps62
  obtain ⟨W0, hW0⟩ : ∃ W0, W0 = w.alloc (.cells #[.float .f64 (slo kb), .float .f64 (shi kb), .bool (sop kb), .bool (sop kb)] 25) := ⟨_, rfl⟩
  have hB0 : Below w.heap.size w W0 := by rw [hW0]; (repeat (first | with_reducible exact Below.refl _ _ | ((with_reducible refine Below.alloc1 ?_ ?_ _); (· first | omega | (simp; done) | (simp; omega))) | (with_reducible refine Below.drew ?_) | (with_reducible refine below_drewN' ?_ _) | ((with_reducible refine Below.setCell1 ?_ ?_ _); (· first | omega | (simp; done) | (simp; omega))) | ((with_reducible refine Below.after (by assumption) ?_ ?_); (· first | omega | (simp; done) | (simp; omega)))))
  have hz0 : W0.heap.size = w.heap.size + 1 := by rw [hW0]; simp
  have s0 : W0.cell? ⟨w.heap.size, 0, none⟩ = some (.float .f64 (slo kb)) := by rw [hW0]; simp [go_sem]
  have s1 : W0.cell? ⟨w.heap.size, 1, none⟩ = some (.float .f64 (shi kb)) := by rw [hW0]; simp [go_sem]
  have s2 : W0.cell? ⟨w.heap.size, 2, none⟩ = some (.bool (sop kb)) := by rw [hW0]; simp [go_sem]
  have s3 : W0.cell? ⟨w.heap.size, 3, none⟩ = some (.bool (sop kb)) := by rw [hW0]; simp [go_sem]
  have hbx : w.heap.size < W0.heap.size := by omega
  have hb0 : b < W0.heap.size := by omega
  go_wp2
  rw [← hW0]
  clear hW0
  go_loopw [9, 10] (fun i j wr => ∃ s t : Nat, s ≤ t ∧ t ≤ n ∧ i = .int .i64 s ∧ j = .int .i64 t ∧ Hid (∀ m : Nat, m < s → ∀ x, its[m]? = some x → codeR x.k.rg < codeR kb) ∧ Hid (∀ m : Nat, t ≤ m → ∀ x, its[m]? = some x → codeR kb ≤ codeR x.k.rg) ∧ Below W0.heap.size W0 wr) (fun i j _ => (intOf j).toNat - (intOf i).toNat)
  case atStart => exact ⟨0, n, Nat.zero_le _, Nat.le_refl _, rfl, rfl, hid fun m hm => absurd hm (Nat.not_lt_zero _), hid fun m hm x hx => by have := (List.getElem?_eq_some_iff.1 hx).1; have := HN.out; omega, Below.refl _ _⟩
  case round =>
    obtain ⟨s, t, hst, htn, rfl, rfl, HA, HZ, hbw⟩ := hrel
    have hsz := hbw.size
    have hyb : w.heap.size < wr.heap.size := by omega
    have e0 := (hbw.cell (p := ⟨w.heap.size, _, none⟩) hbx).trans s0
    have e1 := (hbw.cell (p := ⟨w.heap.size, _, none⟩) hbx).trans s1
    have e2 := (hbw.cell (p := ⟨w.heap.size, _, none⟩) hbx).trans s2
    have e3 := (hbw.cell (p := ⟨w.heap.size, _, none⟩) hbx).trans s3
    by_cases hlt : s < t
    · have hlt' : (s : Int) < (t : Int) := by omega
      have hh1 : s ≤ (s + t) / 2 := by omega
      have hh2 : (s + t) / 2 < t := by omega
      have hmt : (s + t) / 2 < its.length := by rw [HN.out]; omega
      obtain ⟨c0, c1, c2, c3, c4⟩ := HC.out ((s + t) / 2) hmt
      have hkx : Hid (its[(s + t) / 2]? = some (its[(s + t) / 2]?.getD default)) := hid (by rw [List.getElem?_eq_getElem hmt]; rfl)
      have d0 := (hbw.cell (p := ⟨b, _, none⟩) hb0).trans ((hB0.cell (p := ⟨b, _, none⟩) hb).trans c0)
      have d1 := (hbw.cell (p := ⟨b, _, none⟩) hb0).trans ((hB0.cell (p := ⟨b, _, none⟩) hb).trans c1)
      have d2 := (hbw.cell (p := ⟨b, _, none⟩) hb0).trans ((hB0.cell (p := ⟨b, _, none⟩) hb).trans c2)
      have d3 := (hbw.cell (p := ⟨b, _, none⟩) hb0).trans ((hB0.cell (p := ⟨b, _, none⟩) hb).trans c3)
      have d4 := (hbw.cell (p := ⟨b, _, none⟩) hb0).trans ((hB0.cell (p := ⟨b, _, none⟩) hb).trans c4)
      clear c0 c1 c2 c3 c4
      generalize its[(s + t) / 2]?.getD default = x at *
      have H := fun W => vPlace1_any x.k x.n kb W HK.out
      have hbb : b < wr.heap.size := by omega
      by_cases hc : codeR x.k.rg < codeR kb
      · have hr : cmpI (codeR x.k.rg) (codeR kb) = -1 := by simp [cmpI, hc]
        have hcH := hid hc
        simp only [hr] at H
        clear hr hc
        go_wp2_with fail
        (refine wp_region_ext (by kernel_rfl) (by kernel_rfl) ?_; (repeat (go_big_quiet_step (first | (go_at_call 63; with_reducible exact Calls.ext_of (H _))))); refine wpQuiet_nil ?_; rintro w1 ⟨x1, hx1⟩; have hb1 := x1.b; rw [← hx1] at hb1; clear hx1 x1; obtain ⟨hc1, hf1⟩ := bcell hb1; (try simp only [World.heap_drewN, World.cell?_drewN, World.frozen?_drewN] at hc1 hf1); have hz1 := hb1.size; (try simp at hz1); (try have hy1_0 : w.heap.size < w1.heap.size := by omega); (try have hy1_1 : w.heap.size + 1 < w1.heap.size := by omega); (try have hy1_2 : w.heap.size + 2 < w1.heap.size := by omega); (try have hy1_3 : w.heap.size + 3 < w1.heap.size := by omega); (try have hx1_0 : w.heap.size ≤ w1.heap.size := by omega); (try have hx1_1 : w.heap.size + 1 ≤ w1.heap.size := by omega); (try have hx1_2 : w.heap.size + 2 ≤ w1.heap.size := by omega))
        go_wp2_with fail
        go_roundw
        case rel =>
          refine ⟨(s + t) / 2 + 1, t, by omega, htn, by first | go_num | (congr 1; omega), rfl, hid fun m hm y hy => ?_, HZ, by (repeat (first | with_reducible exact Below.refl _ _ | ((with_reducible refine Below.alloc1 ?_ ?_ _); (· first | omega | (simp; done) | (simp; omega))) | (with_reducible refine Below.drew ?_) | (with_reducible refine below_drewN' ?_ _) | ((with_reducible refine Below.setCell1 ?_ ?_ _); (· first | omega | (simp; done) | (simp; omega))) | ((with_reducible refine Below.after (by assumption) ?_ ?_); (· first | omega | (simp; done) | (simp; omega)))))⟩
          exact HM.out m ((s + t) / 2) (by omega) y x hy hkx.out hcH.out
        case measure => simp [intOf]; omega
      · have hr : decide (cmpI (codeR x.k.rg) (codeR kb) < 0) = false := by simp [cmpI, hc]; split <;> omega
        have hcH := hid hc
        generalize cmpI (codeR x.k.rg) (codeR kb) = r at *
        clear hc
        go_wp2_with fail
        (refine wp_region_ext (by kernel_rfl) (by kernel_rfl) ?_; (repeat (go_big_quiet_step (first | (go_at_call 63; with_reducible exact Calls.ext_of (H _))))); refine wpQuiet_nil ?_; rintro w1 ⟨x1, hx1⟩; have hb1 := x1.b; rw [← hx1] at hb1; clear hx1 x1; obtain ⟨hc1, hf1⟩ := bcell hb1; (try simp only [World.heap_drewN, World.cell?_drewN, World.frozen?_drewN] at hc1 hf1); have hz1 := hb1.size; (try simp at hz1); (try have hy1_0 : w.heap.size < w1.heap.size := by omega); (try have hy1_1 : w.heap.size + 1 < w1.heap.size := by omega); (try have hy1_2 : w.heap.size + 2 < w1.heap.size := by omega); (try have hy1_3 : w.heap.size + 3 < w1.heap.size := by omega); (try have hx1_0 : w.heap.size ≤ w1.heap.size := by omega); (try have hx1_1 : w.heap.size + 1 ≤ w1.heap.size := by omega); (try have hx1_2 : w.heap.size + 2 ≤ w1.heap.size := by omega))
        go_wp2_with fail
        go_roundw
        case rel =>
          refine ⟨s, (s + t) / 2, by omega, by omega, rfl, by first | go_num | (congr 1; omega), HA, hid fun m hm y hy => ?_, by (repeat (first | with_reducible exact Below.refl _ _ | ((with_reducible refine Below.alloc1 ?_ ?_ _); (· first | omega | (simp; done) | (simp; omega))) | (with_reducible refine Below.drew ?_) | (with_reducible refine below_drewN' ?_ _) | ((with_reducible refine Below.setCell1 ?_ ?_ _); (· first | omega | (simp; done) | (simp; omega))) | ((with_reducible refine Below.after (by assumption) ?_ ?_); (· first | omega | (simp; done) | (simp; omega)))))⟩
          have := HM.out ((s + t) / 2) m hm x y hkx.out hy
          have := hcH.out
          omega
        case measure => simp [intOf]; omega
    · obtain rfl : s = t := by omega
      have hp : plcI its kb = s := by
        unfold plcI
        by_cases hsn : s < its.length
        · rw [List.findIdx_eq hsn]
          refine ⟨?_, fun j hj => ?_⟩
          · have := HZ.out s (Nat.le_refl _) _ (List.getElem?_eq_getElem hsn)
            simpa using this
          · have := HA.out j hj _ (List.getElem?_eq_getElem (by omega))
            simpa using this
        · have hsn' : s = its.length := by have := HN.out; omega
          rw [hsn']
          exact List.findIdx_eq_length.2 fun x hx => by
            obtain ⟨j, hj⟩ := List.mem_iff_getElem?.1 hx
            have hjl := (List.getElem?_eq_some_iff.1 hj).1
            have := HA.out j (by omega) x hj
            simpa using this
      by_cases hsn : s < n
      · have hsl : s < its.length := by rw [HN.out]; exact hsn
        have hsn' : (s : Int) < (n : Int) := by omega
        obtain ⟨c0, c1, c2, c3, c4⟩ := HC.out s hsl
        have hkx : Hid (its[s]? = some (its[s]?.getD default)) := hid (by rw [List.getElem?_eq_getElem hsl]; rfl)
        have d0 := (hbw.cell (p := ⟨b, _, none⟩) hb0).trans ((hB0.cell (p := ⟨b, _, none⟩) hb).trans c0)
        have d1 := (hbw.cell (p := ⟨b, _, none⟩) hb0).trans ((hB0.cell (p := ⟨b, _, none⟩) hb).trans c1)
        have d2 := (hbw.cell (p := ⟨b, _, none⟩) hb0).trans ((hB0.cell (p := ⟨b, _, none⟩) hb).trans c2)
        have d3 := (hbw.cell (p := ⟨b, _, none⟩) hb0).trans ((hB0.cell (p := ⟨b, _, none⟩) hb).trans c3)
        have d4 := (hbw.cell (p := ⟨b, _, none⟩) hb0).trans ((hB0.cell (p := ⟨b, _, none⟩) hb).trans c4)
        clear c0 c1 c2 c3 c4
        have hq : plcB its kb = decide (codeR (its[s]?.getD default).k.rg = codeR kb) := by
          unfold plcB; rw [hp, List.getElem?_eq_getElem hsl]; rfl
        generalize its[s]?.getD default = x at *
        have hbb : b < wr.heap.size := by omega
        have H := fun W => vPlace1_any x.k x.n kb W HK.out
        have he : decide (codeR x.k.rg = codeR kb) = (cmpI (codeR x.k.rg) (codeR kb) == 0) := by
          unfold cmpI; split
          · simp; omega
          · split
            · simp; omega
            · simp; omega
        rw [he] at hq
        have HP := hid hp; have HQ := hid hq
        clear hp hq he
        generalize cmpI (codeR x.k.rg) (codeR kb) = r at *
        go_wp2_with fail
        (refine wp_region_ext (by kernel_rfl) (by kernel_rfl) ?_; (repeat (go_big_quiet_step (first | (go_at_call 63; with_reducible exact Calls.ext_of (H _))))); refine wpQuiet_nil ?_; rintro w1 ⟨x1, hx1⟩; have hb1 := x1.b; rw [← hx1] at hb1; clear hx1 x1; obtain ⟨hc1, hf1⟩ := bcell hb1; (try simp only [World.heap_drewN, World.cell?_drewN, World.frozen?_drewN] at hc1 hf1); have hz1 := hb1.size; (try simp at hz1); (try have hy1_0 : w.heap.size < w1.heap.size := by omega); (try have hy1_1 : w.heap.size + 1 < w1.heap.size := by omega); (try have hy1_2 : w.heap.size + 2 < w1.heap.size := by omega); (try have hy1_3 : w.heap.size + 3 < w1.heap.size := by omega); (try have hx1_0 : w.heap.size ≤ w1.heap.size := by omega); (try have hx1_1 : w.heap.size + 1 ≤ w1.heap.size := by omega); (try have hx1_2 : w.heap.size + 2 ≤ w1.heap.size := by omega))
        go_wp2_with fail
        go_ret2
        exact ⟨by rw [HP.out, HQ.out]; rfl, hB0.trans (Below.mono (B := W0.heap.size) (by (repeat (first | with_reducible exact Below.refl _ _ | ((with_reducible refine Below.alloc1 ?_ ?_ _); (· first | omega | (simp; done) | (simp; omega))) | (with_reducible refine Below.drew ?_) | (with_reducible refine below_drewN' ?_ _) | ((with_reducible refine Below.setCell1 ?_ ?_ _); (· first | omega | (simp; done) | (simp; omega))) | ((with_reducible refine Below.after (by assumption) ?_ ?_); (· first | omega | (simp; done) | (simp; omega)))))) (by omega))⟩
      · have hsn' : decide ((s : Int) < (n : Int)) = false := by simp; omega
        have hq : plcB its kb = false := by
          unfold plcB; rw [hp, List.getElem?_eq_none (by have := HN.out; omega)]
        have HP := hid hp; have HQ := hid hq
        clear hp hq
        go_wp2_with fail
        (refine wp_region_ext (by kernel_rfl) (by kernel_rfl) ?_; (repeat (go_big_quiet_step (first | fail))); refine wpQuiet_nil ?_; rintro w1 ⟨x1, hx1⟩; have hb1 := x1.b; rw [← hx1] at hb1; clear hx1 x1; obtain ⟨hc1, hf1⟩ := bcell hb1; (try simp only [World.heap_drewN, World.cell?_drewN, World.frozen?_drewN] at hc1 hf1); have hz1 := hb1.size; (try simp at hz1); (try have hy1_0 : w.heap.size < w1.heap.size := by omega); (try have hy1_1 : w.heap.size + 1 < w1.heap.size := by omega); (try have hy1_2 : w.heap.size + 2 < w1.heap.size := by omega); (try have hy1_3 : w.heap.size + 3 < w1.heap.size := by omega); (try have hx1_0 : w.heap.size ≤ w1.heap.size := by omega); (try have hx1_1 : w.heap.size + 1 ≤ w1.heap.size := by omega); (try have hx1_2 : w.heap.size + 2 ≤ w1.heap.size := by omega))
        go_wp2_with fail
        go_ret2
        exact ⟨by rw [HP.out, HQ.out]; rfl, hB0.trans (Below.mono (B := W0.heap.size) (by (repeat (first | with_reducible exact Below.refl _ _ | ((with_reducible refine Below.alloc1 ?_ ?_ _); (· first | omega | (simp; done) | (simp; omega))) | (with_reducible refine Below.drew ?_) | (with_reducible refine below_drewN' ?_ _) | ((with_reducible refine Below.setCell1 ?_ ?_ _); (· first | omega | (simp; done) | (simp; omega))) | ((with_reducible refine Below.after (by assumption) ?_ ?_); (· first | omega | (simp; done) | (simp; omega)))))) (by omega))⟩
end Go.Proofs.Ytnlaepogkepnhaa.Q
