/- The walk of PredsOrder. -/
import Derived.Test.YtnlaepogkepnhaaQH
namespace Go.Proofs.Ytnlaepogkepnhaa.Q
set_option linter.unusedVariables false
open Go.RowKit Fl

theorem cmp_raw (o : OpV) (k : RK) (v : Int) (w : World) (h1 : o.lo < 2 ^ 64) (h2 : o.hi < 2 ^ 64) (hv : Hid (cmpI (codeR o.rg) (codeR k.rg) = v)) :
    Calls Try.prog 37 #[.agg #[.float .f64 o.lo, .float .f64 o.hi, .bool o.a, .bool o.b], .agg #[.float .f64 k.lo.bits, .float .f64 k.hi.bits, .bool false, .bool false]] w (Ret (.int .i64 v) w) := by
  have h := cmp_any o.lo o.hi k.lo.bits k.hi.bits o.a o.b false false w h1 h2 (Key.bits_lt _) (Key.bits_lt _)
  rw [canonS_canon _ _ k.le, cmpR_code] at h
  have e := hv.out
  unfold OpV.rg RK.rg at e
  rwa [e] at h
theorem cmp_less (k l : RK) (w : World) (hv : Hid (codeR k.rg < codeR l.rg)) :
    Calls Try.prog 37 #[.agg #[.float .f64 k.lo.bits, .float .f64 k.hi.bits, .bool false, .bool false], .agg #[.float .f64 l.lo.bits, .float .f64 l.hi.bits, .bool false, .bool false]] w (Ret (.int .i64 (-1)) w) := by
  have h := cmp_rg k l.rg w l.ok
  rw [show cmpI (codeR k.rg) (codeR l.rg) = -1 by unfold cmpI; rw [if_pos hv.out]] at h
  exact h
theorem canon_rk (k : RK) (w : World) :
    Calls Try.prog 39 #[.agg #[.float .f64 k.lo.bits, .float .f64 k.hi.bits, .bool false, .bool false]] w (Ret (.agg #[.float .f64 k.lo.bits, .float .f64 k.hi.bits, .bool false, .bool false]) w) :=
  canon_isS _ _ _ _ _ _ _ (Key.bits_lt _) (Key.bits_lt _) (hid (canonS_canon _ _ k.le))
theorem best_step {ops : List OpV} {t : Nat} {o : OpV} (h : ops[t]? = some o) (k : RK) : best (ops.take (t + 1)) k = if 1 ≤ o.n ∧ o.n ≤ 1099511627776 ∧ codeR o.rg = codeR k.rg then max (best (ops.take t) k) o.n else best (ops.take t) k := by
  rw [List.take_add_one, h]
  show best (_ ++ [o]) k = _
  rw [best_snoc]
  unfold bestF good
  have key : (o.rg ≠ none ∧ keyR o.rg = k) ↔ codeR o.rg = codeR k.rg := by
    constructor
    · rintro ⟨h1, rfl⟩
      exact (key_code o.ok h1).symm
    · intro h
      obtain ⟨h1, h2⟩ := code_key o.ok h.symm
      exact ⟨h1, h2.symm⟩
  by_cases hc : codeR o.rg = codeR k.rg
  · obtain ⟨h1, h2⟩ := key.2 hc
    simp [h1, h2, hc]
  · have hL : ¬ ((!decide (o.rg = none) && decide (1 ≤ o.n) && decide (o.n ≤ 1099511627776)) = true ∧ keyR o.rg = k) := by
      rintro ⟨h1, h2⟩
      simp only [Bool.and_eq_true, Bool.not_eq_true', decide_eq_false_iff_not] at h1
      exact hc (key.1 ⟨h1.1.1, h2⟩)
    rw [if_neg hL, if_neg (fun h => hc h.2.2)]

set_option maxHeartbeats 1000000 in
set_option maxRecDepth 100000 in
theorem predsOrder_short (a : Option Addr) (c : Nat) (ops : List OpV) (w : World) (ho : OAt w a ops) (hca : ops.length ≤ c ∧ c ≤ 9223372036854775807) (hlen : ops.length ≤ 60) :
    Calls Try.prog 9 #[.slice a ops.length c] w (Ret (.bool true) w) := by
  obtain ⟨n, hn⟩ : ∃ n, ops.length = n := ⟨_, rfl⟩
  have hmax : n ≤ 9223372036854775807 := by have := ho.len; unfold maxLen at this; omega
  have HO := hid ho
  rw [hn] at hlen hca ⊢
  obtain ⟨oq, hoq⟩ : ∃ oq, oq = ops := ⟨_, rfl⟩
  rw [← hoq] at hn
  have HQ := hid hoq
  clear hoq
  have HN : Hid (oq.length = n) := hid (by exact hn)
  have HCS : Hid (∀ t, t < n → ∃ b' o', a = some ⟨b', o', none⟩ ∧ b' < w.heap.size ∧ ∀ W, Below w.heap.size w W → W.cell? ⟨b', o' + t * 6, none⟩ = some (.int .i64 (oq[t]?.getD default).kind) ∧ W.cell? ⟨b', o' + t * 6 + 1, none⟩ = some (.float .f64 (oq[t]?.getD default).lo) ∧ W.cell? ⟨b', o' + t * 6 + 2, none⟩ = some (.float .f64 (oq[t]?.getD default).hi) ∧ W.cell? ⟨b', o' + t * 6 + 3, none⟩ = some (.bool (oq[t]?.getD default).a) ∧ W.cell? ⟨b', o' + t * 6 + 4, none⟩ = some (.bool (oq[t]?.getD default).b) ∧ W.cell? ⟨b', o' + t * 6 + 5, none⟩ = some (.int .i64 (oq[t]?.getD default).n) ∧ ((oq[t]?.getD default).lo < 2 ^ 64 ∧ (oq[t]?.getD default).hi < 2 ^ 64)) := hid fun t ht => by
    have ht2 : t < oq.length := by rw [HN.out]; exact ht
    have ht' : t < ops.length := by rw [← HQ.out]; exact ht2
    have e : oq[t]? = ops[t]? := by rw [HQ.out]
    rw [e]
    rcases ho.row with h0 | ⟨b, o, hbo, hb, hcs⟩
    · rw [h0] at ht'; simp at ht'
    refine ⟨b, o, hbo, hb, fun W hbW => ?_⟩
    have k := fun j => (hbW.cell (p := ⟨b, j, none⟩) hb)
    have q := hcs t ht'
    exact ⟨(k _).trans q.1, (k _).trans q.2.1, (k _).trans q.2.2.1, (k _).trans q.2.2.2.1, (k _).trans q.2.2.2.2.1, (k _).trans q.2.2.2.2.2, ho.lt t ht'⟩
  have hisof := putAll_isOf 64 oq (by rw [HN.out]; omega) oq.length (Nat.le_refl _)
  rw [List.take_length] at hisof
  have HI := hid hisof
  have HB : Hid (oq.take n = oq) := hid (by rw [← HN.out, List.take_length])
  clear ho hn hisof
  go_enter Try.func9, Try.ntmps9
  go_wp2_with fail
  with_reducible refine (tab_new (Below.refl _ _) 64 (by omega) (by omega)).mono ?_
  rintro e w1 ⟨T, rfl, hT0⟩
  have hT1 : Tab1 w w1 T 64 [] := hT0
  clear hT0
  go_wp2_with (go_at_call 31; (with_reducible refine (alive_any _).mono ?_); rintro e w3 ⟨rfl, hb3⟩; obtain ⟨hc3, hf3⟩ := bcell hb3; (try simp only [World.heap_drewN, World.cell?_drewN, World.frozen?_drewN] at hc3 hf3); have hz3 := hb3.size; (try simp at hz3); (try have hy3_0 : w.heap.size < w3.heap.size := by omega); (try have hy3_1 : w.heap.size + 1 < w3.heap.size := by omega); (try have hy3_2 : w.heap.size + 2 < w3.heap.size := by omega); (try have hy3_3 : w.heap.size + 3 < w3.heap.size := by omega); (try have hx3_0 : w.heap.size ≤ w3.heap.size := by omega); (try have hx3_1 : w.heap.size + 1 ≤ w3.heap.size := by omega); (try have hx3_2 : w.heap.size + 2 ≤ w3.heap.size := by omega))
  have hT3 : Tab1 w w3 T 64 [] := hT1.below hb3
  clear hT1 hb3 hc3 hf3 hlen
  go_loopw [26] (fun iv wr => ∃ i : Nat, i ≤ n ∧ iv = .int .i64 i ∧ Tab1 w wr T 64 (putAll [] 64 (oq.take i))) (fun iv _ => n - (intOf iv).toNat)
  case atStart => exact ⟨0, Nat.zero_le _, rfl, hT3⟩
  case round =>
    obtain ⟨i, hin, rfl, hT⟩ := hrel
    clear hT3
    by_cases hlt : i < n
    · have hlt' : (i : Int) < (n : Int) := by omega
      obtain ⟨b, o, hbo, hb, hq⟩ := HCS.out i hlt
      cases hbo
      obtain ⟨d0, d1, d2, d3, d4, d5, hkx⟩ := hq wr hT.b
      have hbw : b < wr.heap.size := by have := hT.b.size; omega
      have hx := hid (op_some (show i < oq.length by rw [HN.out]; exact hlt))
      generalize oq[i]?.getD default = x at *
      have HX := hid (putAll_snoc [] 64 hx.out)
      clear hq
      go_wp2_with (go_at_call 33; (with_reducible refine (tab_put (its' := (putI (putAll [] 64 (oq.take i)) 64 x.rg x.n).2) (by first | assumption | exact Tab1.below (by assumption) (by (repeat (first | with_reducible exact Below.refl _ _ | ((with_reducible refine Below.alloc1 ?_ ?_ _); (· first | omega | (simp; done) | (simp; omega))) | (with_reducible refine Below.drew ?_) | (with_reducible refine below_drewN' ?_ _) | ((with_reducible refine Below.setCell1 ?_ ?_ _); (· first | omega | (simp; done) | (simp; omega))) | ((with_reducible refine Below.after (by assumption) ?_ ?_); (· first | omega | (simp; done) | (simp; omega))))))) _ _ _ _ _ (putI (putAll [] 64 (oq.take i)) 64 x.rg x.n).1 hkx.1 hkx.2 (hid rfl)).mono ?_); rintro e w4 ⟨rfl, hT4⟩)
      go_roundw
      case rel => exact ⟨i + 1, by omega, by go_num, by rw [HX.out]; exact (by first | assumption | exact Tab1.below (by assumption) (by (repeat (first | with_reducible exact Below.refl _ _ | ((with_reducible refine Below.alloc1 ?_ ?_ _); (· first | omega | (simp; done) | (simp; omega))) | (with_reducible refine Below.drew ?_) | (with_reducible refine below_drewN' ?_ _) | ((with_reducible refine Below.setCell1 ?_ ?_ _); (· first | omega | (simp; done) | (simp; omega))) | ((with_reducible refine Below.after (by assumption) ?_ ?_); (· first | omega | (simp; done) | (simp; omega)))))))⟩
      case measure => simp [intOf]; omega
    · obtain rfl : i = n := by omega
      have hT : Tab1 w wr T 64 (putAll [] 64 oq) := by rw [HB.out] at hT; exact hT
      generalize putAll [] 64 oq = its at *
      have hl64 : its.length ≤ 64 := by have := hT.le; omega
      obtain ⟨N, hN⟩ : ∃ N, its.length = N := ⟨_, rfl⟩
      have HNN := hid hN
      rw [hN] at hl64
      have HU := hid hT.up
      go_wp2_with (go_at_call 34; (with_reducible refine (tab_all hT).mono ?_); rintro e w4 ⟨a4, c4, rfl, hr4, hb4⟩)
      have HA := hid (fun h0 => own_at hr4 rfl h0)
      rw [hN] at HA
      have hT4 := hT.below hb4
      clear hr4 hT hN
      go_wp2_with fail
      go_loopw [41] (fun iv w6 => ∃ k : Nat, k ≤ N ∧ iv = .int .i64 k ∧ Below w4.heap.size w4 w6) (fun iv _ => N - (intOf iv).toNat)
      case atStart => exact ⟨0, Nat.zero_le _, rfl, by (repeat (first | with_reducible exact Below.refl _ _ | ((with_reducible refine Below.alloc1 ?_ ?_ _); (· first | omega | (simp; done) | (simp; omega))) | (with_reducible refine Below.drew ?_) | (with_reducible refine below_drewN' ?_ _) | ((with_reducible refine Below.setCell1 ?_ ?_ _); (· first | omega | (simp; done) | (simp; omega))) | ((with_reducible refine Below.after (by assumption) ?_ ?_); (· first | omega | (simp; done) | (simp; omega)))))⟩
      case round =>
        obtain ⟨k, hk, rfl, hb6⟩ := hrel
        have hT6 := hT4.below hb6
        have hz6 := hb6.size
        by_cases hltk : k < N
        · have hltk' : (k : Int) < (N : Int) := by omega
          obtain ⟨g, rfl, hg, hcs⟩ := HA.out (by omega)
          have hkl : k < its.length := by rw [HNN.out]; exact hltk
          obtain ⟨d0, d1, d2, d3, d4⟩ := hcs k hltk
          have d0 := (hb6.cell (p := ⟨g, _, none⟩) hg).trans d0
          have d1 := (hb6.cell (p := ⟨g, _, none⟩) hg).trans d1
          have d2 := (hb6.cell (p := ⟨g, _, none⟩) hg).trans d2
          have d3 := (hb6.cell (p := ⟨g, _, none⟩) hg).trans d3
          have d4 := (hb6.cell (p := ⟨g, _, none⟩) hg).trans d4
          have hgw : g < wr.heap.size := by omega
          have hx := hid (it_some hkl)
          have hbest := hid ((HI.out _).1 (it_mem hx.out)).2
          obtain ⟨wo, rfl⟩ : ∃ x, x = wr := ⟨_, rfl⟩
          have inner : ∀ (x : ItV) (w7 : World), Hid (best oq x.k = x.n) → True := fun _ _ _ => trivial
          rcases Nat.eq_zero_or_pos k with hk0 | hk0
          · subst hk0
            generalize its[0]?.getD default = x at *
            clear hcs hkl inner
            go_wp2_with fail
            (refine wp_region_ext (by kernel_rfl) (by kernel_rfl) ?_; (repeat (go_big_quiet_step (first | (go_at_call 39; with_reducible exact Calls.ext_of (canon_rk x.k _)) | (go_at_call 38; with_reducible exact Calls.ext_of (sameSpan_refl _ _ _ _ _))))); refine wpQuiet_nil ?_; rintro w7 ⟨x7, hx7⟩; have hb7 := x7.b; rw [← hx7] at hb7; clear hx7 x7; obtain ⟨hc7, hf7⟩ := bcell hb7; (try simp only [World.heap_drewN, World.cell?_drewN, World.frozen?_drewN] at hc7 hf7); have hz7 := hb7.size; (try simp at hz7); (try have hy7_0 : w.heap.size < w7.heap.size := by omega); (try have hy7_1 : w.heap.size + 1 < w7.heap.size := by omega); (try have hy7_2 : w.heap.size + 2 < w7.heap.size := by omega); (try have hy7_3 : w.heap.size + 3 < w7.heap.size := by omega); (try have hx7_0 : w.heap.size ≤ w7.heap.size := by omega); (try have hx7_1 : w.heap.size + 1 ≤ w7.heap.size := by omega); (try have hx7_2 : w.heap.size + 2 ≤ w7.heap.size := by omega); (try have hu7_wo_0 : wo.heap.size < w7.heap.size := by omega); (try have hu7_wo_1 : wo.heap.size + 1 < w7.heap.size := by omega))
            have hb7' : Below wo.heap.size wo w7 := by (repeat (first | with_reducible exact Below.refl _ _ | ((with_reducible refine Below.alloc1 ?_ ?_ _); (· first | omega | (simp; done) | (simp; omega))) | (with_reducible refine Below.drew ?_) | (with_reducible refine below_drewN' ?_ _) | ((with_reducible refine Below.setCell1 ?_ ?_ _); (· first | omega | (simp; done) | (simp; omega))) | ((with_reducible refine Below.after (by assumption) ?_ ?_); (· first | omega | (simp; done) | (simp; omega)))))
            have q0 : w7.cell? ⟨wo.heap.size, 0, none⟩ = some (.float .f64 x.k.lo.bits) := by rw [hc7 _ _ (by simp)]; simp [go_sem]
            have q1 : w7.cell? ⟨wo.heap.size, 1, none⟩ = some (.float .f64 x.k.hi.bits) := by rw [hc7 _ _ (by simp)]; simp [go_sem]
            have q2 : w7.cell? ⟨wo.heap.size, 2, none⟩ = some (.bool false) := by rw [hc7 _ _ (by simp)]; simp [go_sem]
            have q3 : w7.cell? ⟨wo.heap.size, 3, none⟩ = some (.bool false) := by rw [hc7 _ _ (by simp)]; simp [go_sem]
            have q4 : w7.cell? ⟨wo.heap.size, 4, none⟩ = some (.int .i64 x.n) := by rw [hc7 _ _ (by simp)]; simp [go_sem]
            have hy7 : wo.heap.size < w7.heap.size := World.block_lt_of_cell? _ _ q4
            have hT7 := hT6.below hb7'
            clear hc7 hf7 hb7 d0 d1 d2 d3 d4
            go_wp2_with fail
            go_loopw [71, 9] (fun iv mv w8 => ∃ t : Nat, t ≤ i ∧ iv = .int .i64 t ∧ mv = .int .i64 (best (oq.take t) x.k) ∧ Below w7.heap.size w7 w8) (fun iv _ _ => i - (intOf iv).toNat)
            case atStart => exact ⟨0, Nat.zero_le _, rfl, rfl, by (repeat (first | with_reducible exact Below.refl _ _ | ((with_reducible refine Below.alloc1 ?_ ?_ _); (· first | omega | (simp; done) | (simp; omega))) | (with_reducible refine Below.drew ?_) | (with_reducible refine below_drewN' ?_ _) | ((with_reducible refine Below.setCell1 ?_ ?_ _); (· first | omega | (simp; done) | (simp; omega))) | ((with_reducible refine Below.after (by assumption) ?_ ?_); (· first | omega | (simp; done) | (simp; omega)))))⟩
            case round =>
              obtain ⟨t, ht, rfl, rfl, hb8⟩ := hrel
              have hz8 := hb8.size
              have q0 := (hb8.cell (p := ⟨wo.heap.size, _, none⟩) hy7).trans q0
              have q1 := (hb8.cell (p := ⟨wo.heap.size, _, none⟩) hy7).trans q1
              have q2 := (hb8.cell (p := ⟨wo.heap.size, _, none⟩) hy7).trans q2
              have q3 := (hb8.cell (p := ⟨wo.heap.size, _, none⟩) hy7).trans q3
              have q4 := (hb8.cell (p := ⟨wo.heap.size, _, none⟩) hy7).trans q4
              have hy8 : wo.heap.size < wr.heap.size := by omega
              by_cases hltt : t < i
              · have hltt' : (t : Int) < (i : Int) := by omega
                obtain ⟨b, o, hbo, hb, hq⟩ := HCS.out t hltt
                cases hbo
                have hT8 := hT7.below hb8
                obtain ⟨d0, d1, d2, d3, d4, d5, hky⟩ := hq wr hT8.b
                have hbw : b < wr.heap.size := by have := hT8.b.size; omega
                have hst := best_step (op_some (show t < oq.length by rw [HN.out]; exact hltt)) x.k
                generalize oq[t]?.getD default = z at *
                generalize hcur : best (oq.take t) x.k = cur at *
                clear hq hcur
                by_cases h1 : 1 ≤ z.n
                · by_cases h2 : z.n ≤ 1099511627776
                  · by_cases h3 : codeR z.rg = codeR x.k.rg
                    · rw [if_pos ⟨h1, h2, h3⟩] at hst
                      have hst := hid hst
                      have HC := fun W => cmp_raw z x.k 0 W hky.1 hky.2 (hid (by unfold cmpI; rw [if_neg (by omega), if_neg (by omega)]))
                      clear h3
                      go_wp2_with (go_at_call 37; (with_reducible refine (HC _).mono ?_); rintro e w9 ⟨rfl, hb9⟩; obtain ⟨hc9, hf9⟩ := bcell hb9; (try simp only [World.heap_drewN, World.cell?_drewN, World.frozen?_drewN] at hc9 hf9); have hz9 := hb9.size; (try simp at hz9); (try have hy9_0 : w.heap.size < w9.heap.size := by omega); (try have hy9_1 : w.heap.size + 1 < w9.heap.size := by omega); (try have hy9_2 : w.heap.size + 2 < w9.heap.size := by omega); (try have hy9_3 : w.heap.size + 3 < w9.heap.size := by omega); (try have hx9_0 : w.heap.size ≤ w9.heap.size := by omega); (try have hx9_1 : w.heap.size + 1 ≤ w9.heap.size := by omega); (try have hx9_2 : w.heap.size + 2 ≤ w9.heap.size := by omega))
                      go_roundw
                      case rel => first | exact ⟨t + 1, by omega, by go_num, by rw [hst.out], by (repeat (first | with_reducible exact Below.refl _ _ | ((with_reducible refine Below.alloc1 ?_ ?_ _); (· first | omega | (simp; done) | (simp; omega))) | (with_reducible refine Below.drew ?_) | (with_reducible refine below_drewN' ?_ _) | ((with_reducible refine Below.setCell1 ?_ ?_ _); (· first | omega | (simp; done) | (simp; omega))) | ((with_reducible refine Below.after (by assumption) ?_ ?_); (· first | omega | (simp; done) | (simp; omega)))))⟩ | ((repeat apply Exists.intro); exact ⟨⟨t + 1, by omega, by go_num, by rw [hst.out], by (repeat (first | with_reducible exact Below.refl _ _ | ((with_reducible refine Below.alloc1 ?_ ?_ _); (· first | omega | (simp; done) | (simp; omega))) | (with_reducible refine Below.drew ?_) | (with_reducible refine below_drewN' ?_ _) | ((with_reducible refine Below.setCell1 ?_ ?_ _); (· first | omega | (simp; done) | (simp; omega))) | ((with_reducible refine Below.after (by assumption) ?_ ?_); (· first | omega | (simp; done) | (simp; omega)))))⟩, rfl⟩)
                      case measure => simp [intOf]; omega
                    · rw [if_neg fun h => h3 h.2.2] at hst
                      have hst := hid hst
                      obtain ⟨r, hr⟩ : ∃ r, cmpI (codeR z.rg) (codeR x.k.rg) = r := ⟨_, rfl⟩
                      have hr0 : (r == 0) = false := by
                        rw [← hr]; unfold cmpI
                        split
                        · simp
                        · split
                          · simp
                          · omega
                      have HC := fun W => cmp_raw z x.k r W hky.1 hky.2 (hid hr)
                      clear h3 hr
                      go_wp2_with (go_at_call 37; (with_reducible refine (HC _).mono ?_); rintro e w9 ⟨rfl, hb9⟩; obtain ⟨hc9, hf9⟩ := bcell hb9; (try simp only [World.heap_drewN, World.cell?_drewN, World.frozen?_drewN] at hc9 hf9); have hz9 := hb9.size; (try simp at hz9); (try have hy9_0 : w.heap.size < w9.heap.size := by omega); (try have hy9_1 : w.heap.size + 1 < w9.heap.size := by omega); (try have hy9_2 : w.heap.size + 2 < w9.heap.size := by omega); (try have hy9_3 : w.heap.size + 3 < w9.heap.size := by omega); (try have hx9_0 : w.heap.size ≤ w9.heap.size := by omega); (try have hx9_1 : w.heap.size + 1 ≤ w9.heap.size := by omega); (try have hx9_2 : w.heap.size + 2 ≤ w9.heap.size := by omega))
                      go_roundw
                      case rel => first | exact ⟨t + 1, by omega, by go_num, by rw [hst.out], by (repeat (first | with_reducible exact Below.refl _ _ | ((with_reducible refine Below.alloc1 ?_ ?_ _); (· first | omega | (simp; done) | (simp; omega))) | (with_reducible refine Below.drew ?_) | (with_reducible refine below_drewN' ?_ _) | ((with_reducible refine Below.setCell1 ?_ ?_ _); (· first | omega | (simp; done) | (simp; omega))) | ((with_reducible refine Below.after (by assumption) ?_ ?_); (· first | omega | (simp; done) | (simp; omega)))))⟩ | ((repeat apply Exists.intro); exact ⟨⟨t + 1, by omega, by go_num, by rw [hst.out], by (repeat (first | with_reducible exact Below.refl _ _ | ((with_reducible refine Below.alloc1 ?_ ?_ _); (· first | omega | (simp; done) | (simp; omega))) | (with_reducible refine Below.drew ?_) | (with_reducible refine below_drewN' ?_ _) | ((with_reducible refine Below.setCell1 ?_ ?_ _); (· first | omega | (simp; done) | (simp; omega))) | ((with_reducible refine Below.after (by assumption) ?_ ?_); (· first | omega | (simp; done) | (simp; omega)))))⟩, rfl⟩)
                      case measure => simp [intOf]; omega
                  · rw [if_neg fun h => h2 h.2.1] at hst
                    have hst := hid hst
                    have h2' : decide (z.n ≤ 1099511627776) = false := by simp; omega
                    go_wp2_with fail
                    go_roundw
                    case rel => first | exact ⟨t + 1, by omega, by go_num, by rw [hst.out], by (repeat (first | with_reducible exact Below.refl _ _ | ((with_reducible refine Below.alloc1 ?_ ?_ _); (· first | omega | (simp; done) | (simp; omega))) | (with_reducible refine Below.drew ?_) | (with_reducible refine below_drewN' ?_ _) | ((with_reducible refine Below.setCell1 ?_ ?_ _); (· first | omega | (simp; done) | (simp; omega))) | ((with_reducible refine Below.after (by assumption) ?_ ?_); (· first | omega | (simp; done) | (simp; omega)))))⟩ | ((repeat apply Exists.intro); exact ⟨⟨t + 1, by omega, by go_num, by rw [hst.out], by (repeat (first | with_reducible exact Below.refl _ _ | ((with_reducible refine Below.alloc1 ?_ ?_ _); (· first | omega | (simp; done) | (simp; omega))) | (with_reducible refine Below.drew ?_) | (with_reducible refine below_drewN' ?_ _) | ((with_reducible refine Below.setCell1 ?_ ?_ _); (· first | omega | (simp; done) | (simp; omega))) | ((with_reducible refine Below.after (by assumption) ?_ ?_); (· first | omega | (simp; done) | (simp; omega)))))⟩, rfl⟩)
                    case measure => simp [intOf]; omega
                · rw [if_neg fun h => h1 h.1] at hst
                  have hst := hid hst
                  have h1' : decide (1 ≤ z.n) = false := by simp; omega
                  go_wp2_with fail
                  go_roundw
                  case rel => first | exact ⟨t + 1, by omega, by go_num, by rw [hst.out], by (repeat (first | with_reducible exact Below.refl _ _ | ((with_reducible refine Below.alloc1 ?_ ?_ _); (· first | omega | (simp; done) | (simp; omega))) | (with_reducible refine Below.drew ?_) | (with_reducible refine below_drewN' ?_ _) | ((with_reducible refine Below.setCell1 ?_ ?_ _); (· first | omega | (simp; done) | (simp; omega))) | ((with_reducible refine Below.after (by assumption) ?_ ?_); (· first | omega | (simp; done) | (simp; omega)))))⟩ | ((repeat apply Exists.intro); exact ⟨⟨t + 1, by omega, by go_num, by rw [hst.out], by (repeat (first | with_reducible exact Below.refl _ _ | ((with_reducible refine Below.alloc1 ?_ ?_ _); (· first | omega | (simp; done) | (simp; omega))) | (with_reducible refine Below.drew ?_) | (with_reducible refine below_drewN' ?_ _) | ((with_reducible refine Below.setCell1 ?_ ?_ _); (· first | omega | (simp; done) | (simp; omega))) | ((with_reducible refine Below.after (by assumption) ?_ ?_); (· first | omega | (simp; done) | (simp; omega)))))⟩, rfl⟩)
                  case measure => simp [intOf]; omega
              · obtain rfl : t = i := by omega
                rw [HB.out, hbest.out]
                go_wp2_with fail
                go_roundw
                case rel => exact ⟨0 + 1, by omega, by go_num, hb6.trans ((Below.trans hb7' (Below.mono (B := w7.heap.size) (by (repeat (first | with_reducible exact Below.refl _ _ | ((with_reducible refine Below.alloc1 ?_ ?_ _); (· first | omega | (simp; done) | (simp; omega))) | (with_reducible refine Below.drew ?_) | (with_reducible refine below_drewN' ?_ _) | ((with_reducible refine Below.setCell1 ?_ ?_ _); (· first | omega | (simp; done) | (simp; omega))) | ((with_reducible refine Below.after (by assumption) ?_ ?_); (· first | omega | (simp; done) | (simp; omega)))))) (by omega))).mono hz6)⟩
                case measure => simp [intOf]; omega
          · obtain ⟨j, hj⟩ : ∃ j, k = j + 1 := ⟨k - 1, by omega⟩
            have hlt2 : (k : Int) > 0 := by omega
            have hsub : (k : Int) - 1 = (j : Int) := by omega
            have hkp : (j : Int) < (N : Int) := by omega
            have hkl' : j < its.length := by omega
            obtain ⟨f0, f1, f2, f3, f4⟩ := hcs j (by omega)
            have f0 := (hb6.cell (p := ⟨g, _, none⟩) hg).trans f0
            have f1 := (hb6.cell (p := ⟨g, _, none⟩) hg).trans f1
            have f2 := (hb6.cell (p := ⟨g, _, none⟩) hg).trans f2
            have f3 := (hb6.cell (p := ⟨g, _, none⟩) hg).trans f3
            have f4 := (hb6.cell (p := ⟨g, _, none⟩) hg).trans f4
            have hcmp : Hid (codeR (its[j]?.getD default).k.rg < codeR (its[k]?.getD default).k.rg) := hid (by
              have h1 := (List.pairwise_iff_getElem.1 HU.out) j k hkl' hkl (by omega)
              rw [List.getElem?_eq_getElem hkl', List.getElem?_eq_getElem hkl, Option.getD_some, Option.getD_some]
              exact h1)
            generalize its[j]?.getD default = y at *
            generalize its[k]?.getD default = x at *
            clear hcs hkl inner hj
            go_wp2_with fail
            (refine wp_region_ext (by kernel_rfl) (by kernel_rfl) ?_; (repeat (go_big_quiet_step (first | (go_at_call 39; with_reducible exact Calls.ext_of (canon_rk x.k _)) | (go_at_call 38; with_reducible exact Calls.ext_of (sameSpan_refl _ _ _ _ _)) | (go_at_call 37; with_reducible exact Calls.ext_of (cmp_less y.k x.k _ hcmp))))); refine wpQuiet_nil ?_; rintro w7 ⟨x7, hx7⟩; have hb7 := x7.b; rw [← hx7] at hb7; clear hx7 x7; obtain ⟨hc7, hf7⟩ := bcell hb7; (try simp only [World.heap_drewN, World.cell?_drewN, World.frozen?_drewN] at hc7 hf7); have hz7 := hb7.size; (try simp at hz7); (try have hy7_0 : w.heap.size < w7.heap.size := by omega); (try have hy7_1 : w.heap.size + 1 < w7.heap.size := by omega); (try have hy7_2 : w.heap.size + 2 < w7.heap.size := by omega); (try have hy7_3 : w.heap.size + 3 < w7.heap.size := by omega); (try have hx7_0 : w.heap.size ≤ w7.heap.size := by omega); (try have hx7_1 : w.heap.size + 1 ≤ w7.heap.size := by omega); (try have hx7_2 : w.heap.size + 2 ≤ w7.heap.size := by omega); (try have hu7_wo_0 : wo.heap.size < w7.heap.size := by omega); (try have hu7_wo_1 : wo.heap.size + 1 < w7.heap.size := by omega))
            have hb7' : Below wo.heap.size wo w7 := by (repeat (first | with_reducible exact Below.refl _ _ | ((with_reducible refine Below.alloc1 ?_ ?_ _); (· first | omega | (simp; done) | (simp; omega))) | (with_reducible refine Below.drew ?_) | (with_reducible refine below_drewN' ?_ _) | ((with_reducible refine Below.setCell1 ?_ ?_ _); (· first | omega | (simp; done) | (simp; omega))) | ((with_reducible refine Below.after (by assumption) ?_ ?_); (· first | omega | (simp; done) | (simp; omega)))))
            have q0 : w7.cell? ⟨wo.heap.size, 0, none⟩ = some (.float .f64 x.k.lo.bits) := by rw [hc7 _ _ (by simp)]; simp [go_sem]
            have q1 : w7.cell? ⟨wo.heap.size, 1, none⟩ = some (.float .f64 x.k.hi.bits) := by rw [hc7 _ _ (by simp)]; simp [go_sem]
            have q2 : w7.cell? ⟨wo.heap.size, 2, none⟩ = some (.bool false) := by rw [hc7 _ _ (by simp)]; simp [go_sem]
            have q3 : w7.cell? ⟨wo.heap.size, 3, none⟩ = some (.bool false) := by rw [hc7 _ _ (by simp)]; simp [go_sem]
            have q4 : w7.cell? ⟨wo.heap.size, 4, none⟩ = some (.int .i64 x.n) := by rw [hc7 _ _ (by simp)]; simp [go_sem]
            have hy7 : wo.heap.size < w7.heap.size := World.block_lt_of_cell? _ _ q4
            have hT7 := hT6.below hb7'
            clear hc7 hf7 hb7 d0 d1 d2 d3 d4
            go_wp2_with fail
            go_loopw [71, 9] (fun iv mv w8 => ∃ t : Nat, t ≤ i ∧ iv = .int .i64 t ∧ mv = .int .i64 (best (oq.take t) x.k) ∧ Below w7.heap.size w7 w8) (fun iv _ _ => i - (intOf iv).toNat)
            case atStart => exact ⟨0, Nat.zero_le _, rfl, rfl, by (repeat (first | with_reducible exact Below.refl _ _ | ((with_reducible refine Below.alloc1 ?_ ?_ _); (· first | omega | (simp; done) | (simp; omega))) | (with_reducible refine Below.drew ?_) | (with_reducible refine below_drewN' ?_ _) | ((with_reducible refine Below.setCell1 ?_ ?_ _); (· first | omega | (simp; done) | (simp; omega))) | ((with_reducible refine Below.after (by assumption) ?_ ?_); (· first | omega | (simp; done) | (simp; omega)))))⟩
            case round =>
              obtain ⟨t, ht, rfl, rfl, hb8⟩ := hrel
              have hz8 := hb8.size
              have q0 := (hb8.cell (p := ⟨wo.heap.size, _, none⟩) hy7).trans q0
              have q1 := (hb8.cell (p := ⟨wo.heap.size, _, none⟩) hy7).trans q1
              have q2 := (hb8.cell (p := ⟨wo.heap.size, _, none⟩) hy7).trans q2
              have q3 := (hb8.cell (p := ⟨wo.heap.size, _, none⟩) hy7).trans q3
              have q4 := (hb8.cell (p := ⟨wo.heap.size, _, none⟩) hy7).trans q4
              have hy8 : wo.heap.size < wr.heap.size := by omega
              by_cases hltt : t < i
              · have hltt' : (t : Int) < (i : Int) := by omega
                obtain ⟨b, o, hbo, hb, hq⟩ := HCS.out t hltt
                cases hbo
                have hT8 := hT7.below hb8
                obtain ⟨d0, d1, d2, d3, d4, d5, hky⟩ := hq wr hT8.b
                have hbw : b < wr.heap.size := by have := hT8.b.size; omega
                have hst := best_step (op_some (show t < oq.length by rw [HN.out]; exact hltt)) x.k
                generalize oq[t]?.getD default = z at *
                generalize hcur : best (oq.take t) x.k = cur at *
                clear hq hcur
                by_cases h1 : 1 ≤ z.n
                · by_cases h2 : z.n ≤ 1099511627776
                  · by_cases h3 : codeR z.rg = codeR x.k.rg
                    · rw [if_pos ⟨h1, h2, h3⟩] at hst
                      have hst := hid hst
                      have HC := fun W => cmp_raw z x.k 0 W hky.1 hky.2 (hid (by unfold cmpI; rw [if_neg (by omega), if_neg (by omega)]))
                      clear h3
                      go_wp2_with (go_at_call 37; (with_reducible refine (HC _).mono ?_); rintro e w9 ⟨rfl, hb9⟩; obtain ⟨hc9, hf9⟩ := bcell hb9; (try simp only [World.heap_drewN, World.cell?_drewN, World.frozen?_drewN] at hc9 hf9); have hz9 := hb9.size; (try simp at hz9); (try have hy9_0 : w.heap.size < w9.heap.size := by omega); (try have hy9_1 : w.heap.size + 1 < w9.heap.size := by omega); (try have hy9_2 : w.heap.size + 2 < w9.heap.size := by omega); (try have hy9_3 : w.heap.size + 3 < w9.heap.size := by omega); (try have hx9_0 : w.heap.size ≤ w9.heap.size := by omega); (try have hx9_1 : w.heap.size + 1 ≤ w9.heap.size := by omega); (try have hx9_2 : w.heap.size + 2 ≤ w9.heap.size := by omega))
                      go_roundw
                      case rel => first | exact ⟨t + 1, by omega, by go_num, by rw [hst.out], by (repeat (first | with_reducible exact Below.refl _ _ | ((with_reducible refine Below.alloc1 ?_ ?_ _); (· first | omega | (simp; done) | (simp; omega))) | (with_reducible refine Below.drew ?_) | (with_reducible refine below_drewN' ?_ _) | ((with_reducible refine Below.setCell1 ?_ ?_ _); (· first | omega | (simp; done) | (simp; omega))) | ((with_reducible refine Below.after (by assumption) ?_ ?_); (· first | omega | (simp; done) | (simp; omega)))))⟩ | ((repeat apply Exists.intro); exact ⟨⟨t + 1, by omega, by go_num, by rw [hst.out], by (repeat (first | with_reducible exact Below.refl _ _ | ((with_reducible refine Below.alloc1 ?_ ?_ _); (· first | omega | (simp; done) | (simp; omega))) | (with_reducible refine Below.drew ?_) | (with_reducible refine below_drewN' ?_ _) | ((with_reducible refine Below.setCell1 ?_ ?_ _); (· first | omega | (simp; done) | (simp; omega))) | ((with_reducible refine Below.after (by assumption) ?_ ?_); (· first | omega | (simp; done) | (simp; omega)))))⟩, rfl⟩)
                      case measure => simp [intOf]; omega
                    · rw [if_neg fun h => h3 h.2.2] at hst
                      have hst := hid hst
                      obtain ⟨r, hr⟩ : ∃ r, cmpI (codeR z.rg) (codeR x.k.rg) = r := ⟨_, rfl⟩
                      have hr0 : (r == 0) = false := by
                        rw [← hr]; unfold cmpI
                        split
                        · simp
                        · split
                          · simp
                          · omega
                      have HC := fun W => cmp_raw z x.k r W hky.1 hky.2 (hid hr)
                      clear h3 hr
                      go_wp2_with (go_at_call 37; (with_reducible refine (HC _).mono ?_); rintro e w9 ⟨rfl, hb9⟩; obtain ⟨hc9, hf9⟩ := bcell hb9; (try simp only [World.heap_drewN, World.cell?_drewN, World.frozen?_drewN] at hc9 hf9); have hz9 := hb9.size; (try simp at hz9); (try have hy9_0 : w.heap.size < w9.heap.size := by omega); (try have hy9_1 : w.heap.size + 1 < w9.heap.size := by omega); (try have hy9_2 : w.heap.size + 2 < w9.heap.size := by omega); (try have hy9_3 : w.heap.size + 3 < w9.heap.size := by omega); (try have hx9_0 : w.heap.size ≤ w9.heap.size := by omega); (try have hx9_1 : w.heap.size + 1 ≤ w9.heap.size := by omega); (try have hx9_2 : w.heap.size + 2 ≤ w9.heap.size := by omega))
                      go_roundw
                      case rel => first | exact ⟨t + 1, by omega, by go_num, by rw [hst.out], by (repeat (first | with_reducible exact Below.refl _ _ | ((with_reducible refine Below.alloc1 ?_ ?_ _); (· first | omega | (simp; done) | (simp; omega))) | (with_reducible refine Below.drew ?_) | (with_reducible refine below_drewN' ?_ _) | ((with_reducible refine Below.setCell1 ?_ ?_ _); (· first | omega | (simp; done) | (simp; omega))) | ((with_reducible refine Below.after (by assumption) ?_ ?_); (· first | omega | (simp; done) | (simp; omega)))))⟩ | ((repeat apply Exists.intro); exact ⟨⟨t + 1, by omega, by go_num, by rw [hst.out], by (repeat (first | with_reducible exact Below.refl _ _ | ((with_reducible refine Below.alloc1 ?_ ?_ _); (· first | omega | (simp; done) | (simp; omega))) | (with_reducible refine Below.drew ?_) | (with_reducible refine below_drewN' ?_ _) | ((with_reducible refine Below.setCell1 ?_ ?_ _); (· first | omega | (simp; done) | (simp; omega))) | ((with_reducible refine Below.after (by assumption) ?_ ?_); (· first | omega | (simp; done) | (simp; omega)))))⟩, rfl⟩)
                      case measure => simp [intOf]; omega
                  · rw [if_neg fun h => h2 h.2.1] at hst
                    have hst := hid hst
                    have h2' : decide (z.n ≤ 1099511627776) = false := by simp; omega
                    go_wp2_with fail
                    go_roundw
                    case rel => first | exact ⟨t + 1, by omega, by go_num, by rw [hst.out], by (repeat (first | with_reducible exact Below.refl _ _ | ((with_reducible refine Below.alloc1 ?_ ?_ _); (· first | omega | (simp; done) | (simp; omega))) | (with_reducible refine Below.drew ?_) | (with_reducible refine below_drewN' ?_ _) | ((with_reducible refine Below.setCell1 ?_ ?_ _); (· first | omega | (simp; done) | (simp; omega))) | ((with_reducible refine Below.after (by assumption) ?_ ?_); (· first | omega | (simp; done) | (simp; omega)))))⟩ | ((repeat apply Exists.intro); exact ⟨⟨t + 1, by omega, by go_num, by rw [hst.out], by (repeat (first | with_reducible exact Below.refl _ _ | ((with_reducible refine Below.alloc1 ?_ ?_ _); (· first | omega | (simp; done) | (simp; omega))) | (with_reducible refine Below.drew ?_) | (with_reducible refine below_drewN' ?_ _) | ((with_reducible refine Below.setCell1 ?_ ?_ _); (· first | omega | (simp; done) | (simp; omega))) | ((with_reducible refine Below.after (by assumption) ?_ ?_); (· first | omega | (simp; done) | (simp; omega)))))⟩, rfl⟩)
                    case measure => simp [intOf]; omega
                · rw [if_neg fun h => h1 h.1] at hst
                  have hst := hid hst
                  have h1' : decide (1 ≤ z.n) = false := by simp; omega
                  go_wp2_with fail
                  go_roundw
                  case rel => first | exact ⟨t + 1, by omega, by go_num, by rw [hst.out], by (repeat (first | with_reducible exact Below.refl _ _ | ((with_reducible refine Below.alloc1 ?_ ?_ _); (· first | omega | (simp; done) | (simp; omega))) | (with_reducible refine Below.drew ?_) | (with_reducible refine below_drewN' ?_ _) | ((with_reducible refine Below.setCell1 ?_ ?_ _); (· first | omega | (simp; done) | (simp; omega))) | ((with_reducible refine Below.after (by assumption) ?_ ?_); (· first | omega | (simp; done) | (simp; omega)))))⟩ | ((repeat apply Exists.intro); exact ⟨⟨t + 1, by omega, by go_num, by rw [hst.out], by (repeat (first | with_reducible exact Below.refl _ _ | ((with_reducible refine Below.alloc1 ?_ ?_ _); (· first | omega | (simp; done) | (simp; omega))) | (with_reducible refine Below.drew ?_) | (with_reducible refine below_drewN' ?_ _) | ((with_reducible refine Below.setCell1 ?_ ?_ _); (· first | omega | (simp; done) | (simp; omega))) | ((with_reducible refine Below.after (by assumption) ?_ ?_); (· first | omega | (simp; done) | (simp; omega)))))⟩, rfl⟩)
                  case measure => simp [intOf]; omega
              · obtain rfl : t = i := by omega
                rw [HB.out, hbest.out]
                go_wp2_with fail
                go_roundw
                case rel => exact ⟨k + 1, by omega, by go_num, hb6.trans ((Below.trans hb7' (Below.mono (B := w7.heap.size) (by (repeat (first | with_reducible exact Below.refl _ _ | ((with_reducible refine Below.alloc1 ?_ ?_ _); (· first | omega | (simp; done) | (simp; omega))) | (with_reducible refine Below.drew ?_) | (with_reducible refine below_drewN' ?_ _) | ((with_reducible refine Below.setCell1 ?_ ?_ _); (· first | omega | (simp; done) | (simp; omega))) | ((with_reducible refine Below.after (by assumption) ?_ ?_); (· first | omega | (simp; done) | (simp; omega)))))) (by omega))).mono hz6)⟩
                case measure => simp [intOf]; omega
        · obtain rfl : k = N := by omega
          go_wp2_with fail
          go_ret
          exact ⟨rfl, (show Tab1 w _ T 64 its from (by first | assumption | exact Tab1.below (by assumption) (by (repeat (first | with_reducible exact Below.refl _ _ | ((with_reducible refine Below.alloc1 ?_ ?_ _); (· first | omega | (simp; done) | (simp; omega))) | (with_reducible refine Below.drew ?_) | (with_reducible refine below_drewN' ?_ _) | ((with_reducible refine Below.setCell1 ?_ ?_ _); (· first | omega | (simp; done) | (simp; omega))) | ((with_reducible refine Below.after (by assumption) ?_ ?_); (· first | omega | (simp; done) | (simp; omega)))))))).b⟩

set_option maxHeartbeats 1000000 in
set_option maxRecDepth 100000 in
theorem predsOrder_cut (a : Option Addr) (c : Nat) (ops : List OpV) (w : World) (ho : OAt w a ops) (hca : ops.length ≤ c ∧ c ≤ 9223372036854775807) (hlen : 60 < ops.length) :
    Calls Try.prog 9 #[.slice a ops.length c] w (Ret (.bool true) w) := by
  obtain ⟨n, hn⟩ : ∃ n, ops.length = n := ⟨_, rfl⟩
  have hmax : n ≤ 9223372036854775807 := by have := ho.len; unfold maxLen at this; omega
  have HO := hid ho
  rw [hn] at hlen hca ⊢
  obtain ⟨oq, hoq⟩ : ∃ oq, oq = ops.take 60 := ⟨_, rfl⟩
  have HQ := hid hoq
  clear hoq
  have hlenI : (60 : Int) < (n : Int) := by omega
  rcases HO.out.row with h0 | ⟨b, o, rfl, _, _⟩
  · exfalso; rw [h0] at hn; simp at hn; omega
  have HN : Hid (oq.length = 60) := hid (by rw [HQ.out, List.length_take]; omega)
  have HCS : Hid (∀ t, t < 60 → ∃ b' o', (some ⟨b, o, none⟩ : Option Addr) = some ⟨b', o', none⟩ ∧ b' < w.heap.size ∧ ∀ W, Below w.heap.size w W → W.cell? ⟨b', o' + t * 6, none⟩ = some (.int .i64 (oq[t]?.getD default).kind) ∧ W.cell? ⟨b', o' + t * 6 + 1, none⟩ = some (.float .f64 (oq[t]?.getD default).lo) ∧ W.cell? ⟨b', o' + t * 6 + 2, none⟩ = some (.float .f64 (oq[t]?.getD default).hi) ∧ W.cell? ⟨b', o' + t * 6 + 3, none⟩ = some (.bool (oq[t]?.getD default).a) ∧ W.cell? ⟨b', o' + t * 6 + 4, none⟩ = some (.bool (oq[t]?.getD default).b) ∧ W.cell? ⟨b', o' + t * 6 + 5, none⟩ = some (.int .i64 (oq[t]?.getD default).n) ∧ ((oq[t]?.getD default).lo < 2 ^ 64 ∧ (oq[t]?.getD default).hi < 2 ^ 64)) := hid fun t ht => by
    have ht2 : t < oq.length := by rw [HN.out]; exact ht
    have ht' : t < ops.length := by rw [HQ.out, List.length_take] at ht2; omega
    have e : oq[t]? = ops[t]? := by rw [HQ.out, List.length_take] at ht2; rw [HQ.out, List.getElem?_take, if_pos (by omega)]
    rw [e]
    rcases ho.row with h0 | ⟨b, o, hbo, hb, hcs⟩
    · rw [h0] at ht'; simp at ht'
    refine ⟨b, o, hbo, hb, fun W hbW => ?_⟩
    have k := fun j => (hbW.cell (p := ⟨b, j, none⟩) hb)
    have q := hcs t ht'
    exact ⟨(k _).trans q.1, (k _).trans q.2.1, (k _).trans q.2.2.1, (k _).trans q.2.2.2.1, (k _).trans q.2.2.2.2.1, (k _).trans q.2.2.2.2.2, ho.lt t ht'⟩
  have hisof := putAll_isOf 64 oq (by rw [HN.out]; omega) oq.length (Nat.le_refl _)
  rw [List.take_length] at hisof
  have HI := hid hisof
  have HB : Hid (oq.take 60 = oq) := hid (by rw [← HN.out, List.take_length])
  clear ho hn hisof
  go_enter Try.func9, Try.ntmps9
  go_wp2_with fail
  with_reducible refine (tab_new (Below.refl _ _) 64 (by omega) (by omega)).mono ?_
  rintro e w1 ⟨T, rfl, hT0⟩
  have hT1 : Tab1 w w1 T 64 [] := hT0
  clear hT0
  go_wp2_with (go_at_call 31; (with_reducible refine (alive_any _).mono ?_); rintro e w3 ⟨rfl, hb3⟩; obtain ⟨hc3, hf3⟩ := bcell hb3; (try simp only [World.heap_drewN, World.cell?_drewN, World.frozen?_drewN] at hc3 hf3); have hz3 := hb3.size; (try simp at hz3); (try have hy3_0 : w.heap.size < w3.heap.size := by omega); (try have hy3_1 : w.heap.size + 1 < w3.heap.size := by omega); (try have hy3_2 : w.heap.size + 2 < w3.heap.size := by omega); (try have hy3_3 : w.heap.size + 3 < w3.heap.size := by omega); (try have hx3_0 : w.heap.size ≤ w3.heap.size := by omega); (try have hx3_1 : w.heap.size + 1 ≤ w3.heap.size := by omega); (try have hx3_2 : w.heap.size + 2 ≤ w3.heap.size := by omega))
  have hT3 : Tab1 w w3 T 64 [] := hT1.below hb3
  clear hT1 hb3 hc3 hf3 hlen
  go_loopw [26] (fun iv wr => ∃ i : Nat, i ≤ 60 ∧ iv = .int .i64 i ∧ Tab1 w wr T 64 (putAll [] 64 (oq.take i))) (fun iv _ => 60 - (intOf iv).toNat)
  case atStart => exact ⟨0, Nat.zero_le _, rfl, hT3⟩
  case round =>
    obtain ⟨i, hin, rfl, hT⟩ := hrel
    clear hT3
    by_cases hlt : i < 60
    · have hlt' : (i : Int) < (60 : Int) := by omega
      obtain ⟨b, o, hbo, hb, hq⟩ := HCS.out i hlt
      cases hbo
      obtain ⟨d0, d1, d2, d3, d4, d5, hkx⟩ := hq wr hT.b
      have hbw : b < wr.heap.size := by have := hT.b.size; omega
      have hx := hid (op_some (show i < oq.length by rw [HN.out]; exact hlt))
      generalize oq[i]?.getD default = x at *
      have HX := hid (putAll_snoc [] 64 hx.out)
      clear hq
      go_wp2_with (go_at_call 33; (with_reducible refine (tab_put (its' := (putI (putAll [] 64 (oq.take i)) 64 x.rg x.n).2) (by first | assumption | exact Tab1.below (by assumption) (by (repeat (first | with_reducible exact Below.refl _ _ | ((with_reducible refine Below.alloc1 ?_ ?_ _); (· first | omega | (simp; done) | (simp; omega))) | (with_reducible refine Below.drew ?_) | (with_reducible refine below_drewN' ?_ _) | ((with_reducible refine Below.setCell1 ?_ ?_ _); (· first | omega | (simp; done) | (simp; omega))) | ((with_reducible refine Below.after (by assumption) ?_ ?_); (· first | omega | (simp; done) | (simp; omega))))))) _ _ _ _ _ (putI (putAll [] 64 (oq.take i)) 64 x.rg x.n).1 hkx.1 hkx.2 (hid rfl)).mono ?_); rintro e w4 ⟨rfl, hT4⟩)
      go_roundw
      case rel => exact ⟨i + 1, by omega, by go_num, by rw [HX.out]; exact (by first | assumption | exact Tab1.below (by assumption) (by (repeat (first | with_reducible exact Below.refl _ _ | ((with_reducible refine Below.alloc1 ?_ ?_ _); (· first | omega | (simp; done) | (simp; omega))) | (with_reducible refine Below.drew ?_) | (with_reducible refine below_drewN' ?_ _) | ((with_reducible refine Below.setCell1 ?_ ?_ _); (· first | omega | (simp; done) | (simp; omega))) | ((with_reducible refine Below.after (by assumption) ?_ ?_); (· first | omega | (simp; done) | (simp; omega)))))))⟩
      case measure => simp [intOf]; omega
    · obtain rfl : i = 60 := by omega
      have hT : Tab1 w wr T 64 (putAll [] 64 oq) := by rw [HB.out] at hT; exact hT
      generalize putAll [] 64 oq = its at *
      have hl64 : its.length ≤ 64 := by have := hT.le; omega
      obtain ⟨N, hN⟩ : ∃ N, its.length = N := ⟨_, rfl⟩
      have HNN := hid hN
      rw [hN] at hl64
      have HU := hid hT.up
      go_wp2_with (go_at_call 34; (with_reducible refine (tab_all hT).mono ?_); rintro e w4 ⟨a4, c4, rfl, hr4, hb4⟩)
      have HA := hid (fun h0 => own_at hr4 rfl h0)
      rw [hN] at HA
      have hT4 := hT.below hb4
      clear hr4 hT hN
      go_wp2_with fail
      go_loopw [41] (fun iv w6 => ∃ k : Nat, k ≤ N ∧ iv = .int .i64 k ∧ Below w4.heap.size w4 w6) (fun iv _ => N - (intOf iv).toNat)
      case atStart => exact ⟨0, Nat.zero_le _, rfl, by (repeat (first | with_reducible exact Below.refl _ _ | ((with_reducible refine Below.alloc1 ?_ ?_ _); (· first | omega | (simp; done) | (simp; omega))) | (with_reducible refine Below.drew ?_) | (with_reducible refine below_drewN' ?_ _) | ((with_reducible refine Below.setCell1 ?_ ?_ _); (· first | omega | (simp; done) | (simp; omega))) | ((with_reducible refine Below.after (by assumption) ?_ ?_); (· first | omega | (simp; done) | (simp; omega)))))⟩
      case round =>
        obtain ⟨k, hk, rfl, hb6⟩ := hrel
        have hT6 := hT4.below hb6
        have hz6 := hb6.size
        by_cases hltk : k < N
        · have hltk' : (k : Int) < (N : Int) := by omega
          obtain ⟨g, rfl, hg, hcs⟩ := HA.out (by omega)
          have hkl : k < its.length := by rw [HNN.out]; exact hltk
          obtain ⟨d0, d1, d2, d3, d4⟩ := hcs k hltk
          have d0 := (hb6.cell (p := ⟨g, _, none⟩) hg).trans d0
          have d1 := (hb6.cell (p := ⟨g, _, none⟩) hg).trans d1
          have d2 := (hb6.cell (p := ⟨g, _, none⟩) hg).trans d2
          have d3 := (hb6.cell (p := ⟨g, _, none⟩) hg).trans d3
          have d4 := (hb6.cell (p := ⟨g, _, none⟩) hg).trans d4
          have hgw : g < wr.heap.size := by omega
          have hx := hid (it_some hkl)
          have hbest := hid ((HI.out _).1 (it_mem hx.out)).2
          obtain ⟨wo, rfl⟩ : ∃ x, x = wr := ⟨_, rfl⟩
          have inner : ∀ (x : ItV) (w7 : World), Hid (best oq x.k = x.n) → True := fun _ _ _ => trivial
          rcases Nat.eq_zero_or_pos k with hk0 | hk0
          · subst hk0
            generalize its[0]?.getD default = x at *
            clear hcs hkl inner
            go_wp2_with fail
            (refine wp_region_ext (by kernel_rfl) (by kernel_rfl) ?_; (repeat (go_big_quiet_step (first | (go_at_call 39; with_reducible exact Calls.ext_of (canon_rk x.k _)) | (go_at_call 38; with_reducible exact Calls.ext_of (sameSpan_refl _ _ _ _ _))))); refine wpQuiet_nil ?_; rintro w7 ⟨x7, hx7⟩; have hb7 := x7.b; rw [← hx7] at hb7; clear hx7 x7; obtain ⟨hc7, hf7⟩ := bcell hb7; (try simp only [World.heap_drewN, World.cell?_drewN, World.frozen?_drewN] at hc7 hf7); have hz7 := hb7.size; (try simp at hz7); (try have hy7_0 : w.heap.size < w7.heap.size := by omega); (try have hy7_1 : w.heap.size + 1 < w7.heap.size := by omega); (try have hy7_2 : w.heap.size + 2 < w7.heap.size := by omega); (try have hy7_3 : w.heap.size + 3 < w7.heap.size := by omega); (try have hx7_0 : w.heap.size ≤ w7.heap.size := by omega); (try have hx7_1 : w.heap.size + 1 ≤ w7.heap.size := by omega); (try have hx7_2 : w.heap.size + 2 ≤ w7.heap.size := by omega); (try have hu7_wo_0 : wo.heap.size < w7.heap.size := by omega); (try have hu7_wo_1 : wo.heap.size + 1 < w7.heap.size := by omega))
            have hb7' : Below wo.heap.size wo w7 := by (repeat (first | with_reducible exact Below.refl _ _ | ((with_reducible refine Below.alloc1 ?_ ?_ _); (· first | omega | (simp; done) | (simp; omega))) | (with_reducible refine Below.drew ?_) | (with_reducible refine below_drewN' ?_ _) | ((with_reducible refine Below.setCell1 ?_ ?_ _); (· first | omega | (simp; done) | (simp; omega))) | ((with_reducible refine Below.after (by assumption) ?_ ?_); (· first | omega | (simp; done) | (simp; omega)))))
            have q0 : w7.cell? ⟨wo.heap.size, 0, none⟩ = some (.float .f64 x.k.lo.bits) := by rw [hc7 _ _ (by simp)]; simp [go_sem]
            have q1 : w7.cell? ⟨wo.heap.size, 1, none⟩ = some (.float .f64 x.k.hi.bits) := by rw [hc7 _ _ (by simp)]; simp [go_sem]
            have q2 : w7.cell? ⟨wo.heap.size, 2, none⟩ = some (.bool false) := by rw [hc7 _ _ (by simp)]; simp [go_sem]
            have q3 : w7.cell? ⟨wo.heap.size, 3, none⟩ = some (.bool false) := by rw [hc7 _ _ (by simp)]; simp [go_sem]
            have q4 : w7.cell? ⟨wo.heap.size, 4, none⟩ = some (.int .i64 x.n) := by rw [hc7 _ _ (by simp)]; simp [go_sem]
            have hy7 : wo.heap.size < w7.heap.size := World.block_lt_of_cell? _ _ q4
            have hT7 := hT6.below hb7'
            clear hc7 hf7 hb7 d0 d1 d2 d3 d4
            go_wp2_with fail
            go_loopw [71, 9] (fun iv mv w8 => ∃ t : Nat, t ≤ 60 ∧ iv = .int .i64 t ∧ mv = .int .i64 (best (oq.take t) x.k) ∧ Below w7.heap.size w7 w8) (fun iv _ _ => 60 - (intOf iv).toNat)
            case atStart => exact ⟨0, Nat.zero_le _, rfl, rfl, by (repeat (first | with_reducible exact Below.refl _ _ | ((with_reducible refine Below.alloc1 ?_ ?_ _); (· first | omega | (simp; done) | (simp; omega))) | (with_reducible refine Below.drew ?_) | (with_reducible refine below_drewN' ?_ _) | ((with_reducible refine Below.setCell1 ?_ ?_ _); (· first | omega | (simp; done) | (simp; omega))) | ((with_reducible refine Below.after (by assumption) ?_ ?_); (· first | omega | (simp; done) | (simp; omega)))))⟩
            case round =>
              obtain ⟨t, ht, rfl, rfl, hb8⟩ := hrel
              have hz8 := hb8.size
              have q0 := (hb8.cell (p := ⟨wo.heap.size, _, none⟩) hy7).trans q0
              have q1 := (hb8.cell (p := ⟨wo.heap.size, _, none⟩) hy7).trans q1
              have q2 := (hb8.cell (p := ⟨wo.heap.size, _, none⟩) hy7).trans q2
              have q3 := (hb8.cell (p := ⟨wo.heap.size, _, none⟩) hy7).trans q3
              have q4 := (hb8.cell (p := ⟨wo.heap.size, _, none⟩) hy7).trans q4
              have hy8 : wo.heap.size < wr.heap.size := by omega
              by_cases hltt : t < 60
              · have hltt' : (t : Int) < (60 : Int) := by omega
                obtain ⟨b, o, hbo, hb, hq⟩ := HCS.out t hltt
                cases hbo
                have hT8 := hT7.below hb8
                obtain ⟨d0, d1, d2, d3, d4, d5, hky⟩ := hq wr hT8.b
                have hbw : b < wr.heap.size := by have := hT8.b.size; omega
                have hst := best_step (op_some (show t < oq.length by rw [HN.out]; exact hltt)) x.k
                generalize oq[t]?.getD default = z at *
                generalize hcur : best (oq.take t) x.k = cur at *
                clear hq hcur
                by_cases h1 : 1 ≤ z.n
                · by_cases h2 : z.n ≤ 1099511627776
                  · by_cases h3 : codeR z.rg = codeR x.k.rg
                    · rw [if_pos ⟨h1, h2, h3⟩] at hst
                      have hst := hid hst
                      have HC := fun W => cmp_raw z x.k 0 W hky.1 hky.2 (hid (by unfold cmpI; rw [if_neg (by omega), if_neg (by omega)]))
                      clear h3
                      go_wp2_with (go_at_call 37; (with_reducible refine (HC _).mono ?_); rintro e w9 ⟨rfl, hb9⟩; obtain ⟨hc9, hf9⟩ := bcell hb9; (try simp only [World.heap_drewN, World.cell?_drewN, World.frozen?_drewN] at hc9 hf9); have hz9 := hb9.size; (try simp at hz9); (try have hy9_0 : w.heap.size < w9.heap.size := by omega); (try have hy9_1 : w.heap.size + 1 < w9.heap.size := by omega); (try have hy9_2 : w.heap.size + 2 < w9.heap.size := by omega); (try have hy9_3 : w.heap.size + 3 < w9.heap.size := by omega); (try have hx9_0 : w.heap.size ≤ w9.heap.size := by omega); (try have hx9_1 : w.heap.size + 1 ≤ w9.heap.size := by omega); (try have hx9_2 : w.heap.size + 2 ≤ w9.heap.size := by omega))
                      go_roundw
                      case rel => first | exact ⟨t + 1, by omega, by go_num, by rw [hst.out], by (repeat (first | with_reducible exact Below.refl _ _ | ((with_reducible refine Below.alloc1 ?_ ?_ _); (· first | omega | (simp; done) | (simp; omega))) | (with_reducible refine Below.drew ?_) | (with_reducible refine below_drewN' ?_ _) | ((with_reducible refine Below.setCell1 ?_ ?_ _); (· first | omega | (simp; done) | (simp; omega))) | ((with_reducible refine Below.after (by assumption) ?_ ?_); (· first | omega | (simp; done) | (simp; omega)))))⟩ | ((repeat apply Exists.intro); exact ⟨⟨t + 1, by omega, by go_num, by rw [hst.out], by (repeat (first | with_reducible exact Below.refl _ _ | ((with_reducible refine Below.alloc1 ?_ ?_ _); (· first | omega | (simp; done) | (simp; omega))) | (with_reducible refine Below.drew ?_) | (with_reducible refine below_drewN' ?_ _) | ((with_reducible refine Below.setCell1 ?_ ?_ _); (· first | omega | (simp; done) | (simp; omega))) | ((with_reducible refine Below.after (by assumption) ?_ ?_); (· first | omega | (simp; done) | (simp; omega)))))⟩, rfl⟩)
                      case measure => simp [intOf]; omega
                    · rw [if_neg fun h => h3 h.2.2] at hst
                      have hst := hid hst
                      obtain ⟨r, hr⟩ : ∃ r, cmpI (codeR z.rg) (codeR x.k.rg) = r := ⟨_, rfl⟩
                      have hr0 : (r == 0) = false := by
                        rw [← hr]; unfold cmpI
                        split
                        · simp
                        · split
                          · simp
                          · omega
                      have HC := fun W => cmp_raw z x.k r W hky.1 hky.2 (hid hr)
                      clear h3 hr
                      go_wp2_with (go_at_call 37; (with_reducible refine (HC _).mono ?_); rintro e w9 ⟨rfl, hb9⟩; obtain ⟨hc9, hf9⟩ := bcell hb9; (try simp only [World.heap_drewN, World.cell?_drewN, World.frozen?_drewN] at hc9 hf9); have hz9 := hb9.size; (try simp at hz9); (try have hy9_0 : w.heap.size < w9.heap.size := by omega); (try have hy9_1 : w.heap.size + 1 < w9.heap.size := by omega); (try have hy9_2 : w.heap.size + 2 < w9.heap.size := by omega); (try have hy9_3 : w.heap.size + 3 < w9.heap.size := by omega); (try have hx9_0 : w.heap.size ≤ w9.heap.size := by omega); (try have hx9_1 : w.heap.size + 1 ≤ w9.heap.size := by omega); (try have hx9_2 : w.heap.size + 2 ≤ w9.heap.size := by omega))
                      go_roundw
                      case rel => first | exact ⟨t + 1, by omega, by go_num, by rw [hst.out], by (repeat (first | with_reducible exact Below.refl _ _ | ((with_reducible refine Below.alloc1 ?_ ?_ _); (· first | omega | (simp; done) | (simp; omega))) | (with_reducible refine Below.drew ?_) | (with_reducible refine below_drewN' ?_ _) | ((with_reducible refine Below.setCell1 ?_ ?_ _); (· first | omega | (simp; done) | (simp; omega))) | ((with_reducible refine Below.after (by assumption) ?_ ?_); (· first | omega | (simp; done) | (simp; omega)))))⟩ | ((repeat apply Exists.intro); exact ⟨⟨t + 1, by omega, by go_num, by rw [hst.out], by (repeat (first | with_reducible exact Below.refl _ _ | ((with_reducible refine Below.alloc1 ?_ ?_ _); (· first | omega | (simp; done) | (simp; omega))) | (with_reducible refine Below.drew ?_) | (with_reducible refine below_drewN' ?_ _) | ((with_reducible refine Below.setCell1 ?_ ?_ _); (· first | omega | (simp; done) | (simp; omega))) | ((with_reducible refine Below.after (by assumption) ?_ ?_); (· first | omega | (simp; done) | (simp; omega)))))⟩, rfl⟩)
                      case measure => simp [intOf]; omega
                  · rw [if_neg fun h => h2 h.2.1] at hst
                    have hst := hid hst
                    have h2' : decide (z.n ≤ 1099511627776) = false := by simp; omega
                    go_wp2_with fail
                    go_roundw
                    case rel => first | exact ⟨t + 1, by omega, by go_num, by rw [hst.out], by (repeat (first | with_reducible exact Below.refl _ _ | ((with_reducible refine Below.alloc1 ?_ ?_ _); (· first | omega | (simp; done) | (simp; omega))) | (with_reducible refine Below.drew ?_) | (with_reducible refine below_drewN' ?_ _) | ((with_reducible refine Below.setCell1 ?_ ?_ _); (· first | omega | (simp; done) | (simp; omega))) | ((with_reducible refine Below.after (by assumption) ?_ ?_); (· first | omega | (simp; done) | (simp; omega)))))⟩ | ((repeat apply Exists.intro); exact ⟨⟨t + 1, by omega, by go_num, by rw [hst.out], by (repeat (first | with_reducible exact Below.refl _ _ | ((with_reducible refine Below.alloc1 ?_ ?_ _); (· first | omega | (simp; done) | (simp; omega))) | (with_reducible refine Below.drew ?_) | (with_reducible refine below_drewN' ?_ _) | ((with_reducible refine Below.setCell1 ?_ ?_ _); (· first | omega | (simp; done) | (simp; omega))) | ((with_reducible refine Below.after (by assumption) ?_ ?_); (· first | omega | (simp; done) | (simp; omega)))))⟩, rfl⟩)
                    case measure => simp [intOf]; omega
                · rw [if_neg fun h => h1 h.1] at hst
                  have hst := hid hst
                  have h1' : decide (1 ≤ z.n) = false := by simp; omega
                  go_wp2_with fail
                  go_roundw
                  case rel => first | exact ⟨t + 1, by omega, by go_num, by rw [hst.out], by (repeat (first | with_reducible exact Below.refl _ _ | ((with_reducible refine Below.alloc1 ?_ ?_ _); (· first | omega | (simp; done) | (simp; omega))) | (with_reducible refine Below.drew ?_) | (with_reducible refine below_drewN' ?_ _) | ((with_reducible refine Below.setCell1 ?_ ?_ _); (· first | omega | (simp; done) | (simp; omega))) | ((with_reducible refine Below.after (by assumption) ?_ ?_); (· first | omega | (simp; done) | (simp; omega)))))⟩ | ((repeat apply Exists.intro); exact ⟨⟨t + 1, by omega, by go_num, by rw [hst.out], by (repeat (first | with_reducible exact Below.refl _ _ | ((with_reducible refine Below.alloc1 ?_ ?_ _); (· first | omega | (simp; done) | (simp; omega))) | (with_reducible refine Below.drew ?_) | (with_reducible refine below_drewN' ?_ _) | ((with_reducible refine Below.setCell1 ?_ ?_ _); (· first | omega | (simp; done) | (simp; omega))) | ((with_reducible refine Below.after (by assumption) ?_ ?_); (· first | omega | (simp; done) | (simp; omega)))))⟩, rfl⟩)
                  case measure => simp [intOf]; omega
              · obtain rfl : t = 60 := by omega
                rw [HB.out, hbest.out]
                go_wp2_with fail
                go_roundw
                case rel => exact ⟨0 + 1, by omega, by go_num, hb6.trans ((Below.trans hb7' (Below.mono (B := w7.heap.size) (by (repeat (first | with_reducible exact Below.refl _ _ | ((with_reducible refine Below.alloc1 ?_ ?_ _); (· first | omega | (simp; done) | (simp; omega))) | (with_reducible refine Below.drew ?_) | (with_reducible refine below_drewN' ?_ _) | ((with_reducible refine Below.setCell1 ?_ ?_ _); (· first | omega | (simp; done) | (simp; omega))) | ((with_reducible refine Below.after (by assumption) ?_ ?_); (· first | omega | (simp; done) | (simp; omega)))))) (by omega))).mono hz6)⟩
                case measure => simp [intOf]; omega
          · obtain ⟨j, hj⟩ : ∃ j, k = j + 1 := ⟨k - 1, by omega⟩
            have hlt2 : (k : Int) > 0 := by omega
            have hsub : (k : Int) - 1 = (j : Int) := by omega
            have hkp : (j : Int) < (N : Int) := by omega
            have hkl' : j < its.length := by omega
            obtain ⟨f0, f1, f2, f3, f4⟩ := hcs j (by omega)
            have f0 := (hb6.cell (p := ⟨g, _, none⟩) hg).trans f0
            have f1 := (hb6.cell (p := ⟨g, _, none⟩) hg).trans f1
            have f2 := (hb6.cell (p := ⟨g, _, none⟩) hg).trans f2
            have f3 := (hb6.cell (p := ⟨g, _, none⟩) hg).trans f3
            have f4 := (hb6.cell (p := ⟨g, _, none⟩) hg).trans f4
            have hcmp : Hid (codeR (its[j]?.getD default).k.rg < codeR (its[k]?.getD default).k.rg) := hid (by
              have h1 := (List.pairwise_iff_getElem.1 HU.out) j k hkl' hkl (by omega)
              rw [List.getElem?_eq_getElem hkl', List.getElem?_eq_getElem hkl, Option.getD_some, Option.getD_some]
              exact h1)
            generalize its[j]?.getD default = y at *
            generalize its[k]?.getD default = x at *
            clear hcs hkl inner hj
            go_wp2_with fail
            (refine wp_region_ext (by kernel_rfl) (by kernel_rfl) ?_; (repeat (go_big_quiet_step (first | (go_at_call 39; with_reducible exact Calls.ext_of (canon_rk x.k _)) | (go_at_call 38; with_reducible exact Calls.ext_of (sameSpan_refl _ _ _ _ _)) | (go_at_call 37; with_reducible exact Calls.ext_of (cmp_less y.k x.k _ hcmp))))); refine wpQuiet_nil ?_; rintro w7 ⟨x7, hx7⟩; have hb7 := x7.b; rw [← hx7] at hb7; clear hx7 x7; obtain ⟨hc7, hf7⟩ := bcell hb7; (try simp only [World.heap_drewN, World.cell?_drewN, World.frozen?_drewN] at hc7 hf7); have hz7 := hb7.size; (try simp at hz7); (try have hy7_0 : w.heap.size < w7.heap.size := by omega); (try have hy7_1 : w.heap.size + 1 < w7.heap.size := by omega); (try have hy7_2 : w.heap.size + 2 < w7.heap.size := by omega); (try have hy7_3 : w.heap.size + 3 < w7.heap.size := by omega); (try have hx7_0 : w.heap.size ≤ w7.heap.size := by omega); (try have hx7_1 : w.heap.size + 1 ≤ w7.heap.size := by omega); (try have hx7_2 : w.heap.size + 2 ≤ w7.heap.size := by omega); (try have hu7_wo_0 : wo.heap.size < w7.heap.size := by omega); (try have hu7_wo_1 : wo.heap.size + 1 < w7.heap.size := by omega))
            have hb7' : Below wo.heap.size wo w7 := by (repeat (first | with_reducible exact Below.refl _ _ | ((with_reducible refine Below.alloc1 ?_ ?_ _); (· first | omega | (simp; done) | (simp; omega))) | (with_reducible refine Below.drew ?_) | (with_reducible refine below_drewN' ?_ _) | ((with_reducible refine Below.setCell1 ?_ ?_ _); (· first | omega | (simp; done) | (simp; omega))) | ((with_reducible refine Below.after (by assumption) ?_ ?_); (· first | omega | (simp; done) | (simp; omega)))))
            have q0 : w7.cell? ⟨wo.heap.size, 0, none⟩ = some (.float .f64 x.k.lo.bits) := by rw [hc7 _ _ (by simp)]; simp [go_sem]
            have q1 : w7.cell? ⟨wo.heap.size, 1, none⟩ = some (.float .f64 x.k.hi.bits) := by rw [hc7 _ _ (by simp)]; simp [go_sem]
            have q2 : w7.cell? ⟨wo.heap.size, 2, none⟩ = some (.bool false) := by rw [hc7 _ _ (by simp)]; simp [go_sem]
            have q3 : w7.cell? ⟨wo.heap.size, 3, none⟩ = some (.bool false) := by rw [hc7 _ _ (by simp)]; simp [go_sem]
            have q4 : w7.cell? ⟨wo.heap.size, 4, none⟩ = some (.int .i64 x.n) := by rw [hc7 _ _ (by simp)]; simp [go_sem]
            have hy7 : wo.heap.size < w7.heap.size := World.block_lt_of_cell? _ _ q4
            have hT7 := hT6.below hb7'
            clear hc7 hf7 hb7 d0 d1 d2 d3 d4
            go_wp2_with fail
            go_loopw [71, 9] (fun iv mv w8 => ∃ t : Nat, t ≤ 60 ∧ iv = .int .i64 t ∧ mv = .int .i64 (best (oq.take t) x.k) ∧ Below w7.heap.size w7 w8) (fun iv _ _ => 60 - (intOf iv).toNat)
            case atStart => exact ⟨0, Nat.zero_le _, rfl, rfl, by (repeat (first | with_reducible exact Below.refl _ _ | ((with_reducible refine Below.alloc1 ?_ ?_ _); (· first | omega | (simp; done) | (simp; omega))) | (with_reducible refine Below.drew ?_) | (with_reducible refine below_drewN' ?_ _) | ((with_reducible refine Below.setCell1 ?_ ?_ _); (· first | omega | (simp; done) | (simp; omega))) | ((with_reducible refine Below.after (by assumption) ?_ ?_); (· first | omega | (simp; done) | (simp; omega)))))⟩
            case round =>
              obtain ⟨t, ht, rfl, rfl, hb8⟩ := hrel
              have hz8 := hb8.size
              have q0 := (hb8.cell (p := ⟨wo.heap.size, _, none⟩) hy7).trans q0
              have q1 := (hb8.cell (p := ⟨wo.heap.size, _, none⟩) hy7).trans q1
              have q2 := (hb8.cell (p := ⟨wo.heap.size, _, none⟩) hy7).trans q2
              have q3 := (hb8.cell (p := ⟨wo.heap.size, _, none⟩) hy7).trans q3
              have q4 := (hb8.cell (p := ⟨wo.heap.size, _, none⟩) hy7).trans q4
              have hy8 : wo.heap.size < wr.heap.size := by omega
              by_cases hltt : t < 60
              · have hltt' : (t : Int) < (60 : Int) := by omega
                obtain ⟨b, o, hbo, hb, hq⟩ := HCS.out t hltt
                cases hbo
                have hT8 := hT7.below hb8
                obtain ⟨d0, d1, d2, d3, d4, d5, hky⟩ := hq wr hT8.b
                have hbw : b < wr.heap.size := by have := hT8.b.size; omega
                have hst := best_step (op_some (show t < oq.length by rw [HN.out]; exact hltt)) x.k
                generalize oq[t]?.getD default = z at *
                generalize hcur : best (oq.take t) x.k = cur at *
                clear hq hcur
                by_cases h1 : 1 ≤ z.n
                · by_cases h2 : z.n ≤ 1099511627776
                  · by_cases h3 : codeR z.rg = codeR x.k.rg
                    · rw [if_pos ⟨h1, h2, h3⟩] at hst
                      have hst := hid hst
                      have HC := fun W => cmp_raw z x.k 0 W hky.1 hky.2 (hid (by unfold cmpI; rw [if_neg (by omega), if_neg (by omega)]))
                      clear h3
                      go_wp2_with (go_at_call 37; (with_reducible refine (HC _).mono ?_); rintro e w9 ⟨rfl, hb9⟩; obtain ⟨hc9, hf9⟩ := bcell hb9; (try simp only [World.heap_drewN, World.cell?_drewN, World.frozen?_drewN] at hc9 hf9); have hz9 := hb9.size; (try simp at hz9); (try have hy9_0 : w.heap.size < w9.heap.size := by omega); (try have hy9_1 : w.heap.size + 1 < w9.heap.size := by omega); (try have hy9_2 : w.heap.size + 2 < w9.heap.size := by omega); (try have hy9_3 : w.heap.size + 3 < w9.heap.size := by omega); (try have hx9_0 : w.heap.size ≤ w9.heap.size := by omega); (try have hx9_1 : w.heap.size + 1 ≤ w9.heap.size := by omega); (try have hx9_2 : w.heap.size + 2 ≤ w9.heap.size := by omega))
                      go_roundw
                      case rel => first | exact ⟨t + 1, by omega, by go_num, by rw [hst.out], by (repeat (first | with_reducible exact Below.refl _ _ | ((with_reducible refine Below.alloc1 ?_ ?_ _); (· first | omega | (simp; done) | (simp; omega))) | (with_reducible refine Below.drew ?_) | (with_reducible refine below_drewN' ?_ _) | ((with_reducible refine Below.setCell1 ?_ ?_ _); (· first | omega | (simp; done) | (simp; omega))) | ((with_reducible refine Below.after (by assumption) ?_ ?_); (· first | omega | (simp; done) | (simp; omega)))))⟩ | ((repeat apply Exists.intro); exact ⟨⟨t + 1, by omega, by go_num, by rw [hst.out], by (repeat (first | with_reducible exact Below.refl _ _ | ((with_reducible refine Below.alloc1 ?_ ?_ _); (· first | omega | (simp; done) | (simp; omega))) | (with_reducible refine Below.drew ?_) | (with_reducible refine below_drewN' ?_ _) | ((with_reducible refine Below.setCell1 ?_ ?_ _); (· first | omega | (simp; done) | (simp; omega))) | ((with_reducible refine Below.after (by assumption) ?_ ?_); (· first | omega | (simp; done) | (simp; omega)))))⟩, rfl⟩)
                      case measure => simp [intOf]; omega
                    · rw [if_neg fun h => h3 h.2.2] at hst
                      have hst := hid hst
                      obtain ⟨r, hr⟩ : ∃ r, cmpI (codeR z.rg) (codeR x.k.rg) = r := ⟨_, rfl⟩
                      have hr0 : (r == 0) = false := by
                        rw [← hr]; unfold cmpI
                        split
                        · simp
                        · split
                          · simp
                          · omega
                      have HC := fun W => cmp_raw z x.k r W hky.1 hky.2 (hid hr)
                      clear h3 hr
                      go_wp2_with (go_at_call 37; (with_reducible refine (HC _).mono ?_); rintro e w9 ⟨rfl, hb9⟩; obtain ⟨hc9, hf9⟩ := bcell hb9; (try simp only [World.heap_drewN, World.cell?_drewN, World.frozen?_drewN] at hc9 hf9); have hz9 := hb9.size; (try simp at hz9); (try have hy9_0 : w.heap.size < w9.heap.size := by omega); (try have hy9_1 : w.heap.size + 1 < w9.heap.size := by omega); (try have hy9_2 : w.heap.size + 2 < w9.heap.size := by omega); (try have hy9_3 : w.heap.size + 3 < w9.heap.size := by omega); (try have hx9_0 : w.heap.size ≤ w9.heap.size := by omega); (try have hx9_1 : w.heap.size + 1 ≤ w9.heap.size := by omega); (try have hx9_2 : w.heap.size + 2 ≤ w9.heap.size := by omega))
                      go_roundw
                      case rel => first | exact ⟨t + 1, by omega, by go_num, by rw [hst.out], by (repeat (first | with_reducible exact Below.refl _ _ | ((with_reducible refine Below.alloc1 ?_ ?_ _); (· first | omega | (simp; done) | (simp; omega))) | (with_reducible refine Below.drew ?_) | (with_reducible refine below_drewN' ?_ _) | ((with_reducible refine Below.setCell1 ?_ ?_ _); (· first | omega | (simp; done) | (simp; omega))) | ((with_reducible refine Below.after (by assumption) ?_ ?_); (· first | omega | (simp; done) | (simp; omega)))))⟩ | ((repeat apply Exists.intro); exact ⟨⟨t + 1, by omega, by go_num, by rw [hst.out], by (repeat (first | with_reducible exact Below.refl _ _ | ((with_reducible refine Below.alloc1 ?_ ?_ _); (· first | omega | (simp; done) | (simp; omega))) | (with_reducible refine Below.drew ?_) | (with_reducible refine below_drewN' ?_ _) | ((with_reducible refine Below.setCell1 ?_ ?_ _); (· first | omega | (simp; done) | (simp; omega))) | ((with_reducible refine Below.after (by assumption) ?_ ?_); (· first | omega | (simp; done) | (simp; omega)))))⟩, rfl⟩)
                      case measure => simp [intOf]; omega
                  · rw [if_neg fun h => h2 h.2.1] at hst
                    have hst := hid hst
                    have h2' : decide (z.n ≤ 1099511627776) = false := by simp; omega
                    go_wp2_with fail
                    go_roundw
                    case rel => first | exact ⟨t + 1, by omega, by go_num, by rw [hst.out], by (repeat (first | with_reducible exact Below.refl _ _ | ((with_reducible refine Below.alloc1 ?_ ?_ _); (· first | omega | (simp; done) | (simp; omega))) | (with_reducible refine Below.drew ?_) | (with_reducible refine below_drewN' ?_ _) | ((with_reducible refine Below.setCell1 ?_ ?_ _); (· first | omega | (simp; done) | (simp; omega))) | ((with_reducible refine Below.after (by assumption) ?_ ?_); (· first | omega | (simp; done) | (simp; omega)))))⟩ | ((repeat apply Exists.intro); exact ⟨⟨t + 1, by omega, by go_num, by rw [hst.out], by (repeat (first | with_reducible exact Below.refl _ _ | ((with_reducible refine Below.alloc1 ?_ ?_ _); (· first | omega | (simp; done) | (simp; omega))) | (with_reducible refine Below.drew ?_) | (with_reducible refine below_drewN' ?_ _) | ((with_reducible refine Below.setCell1 ?_ ?_ _); (· first | omega | (simp; done) | (simp; omega))) | ((with_reducible refine Below.after (by assumption) ?_ ?_); (· first | omega | (simp; done) | (simp; omega)))))⟩, rfl⟩)
                    case measure => simp [intOf]; omega
                · rw [if_neg fun h => h1 h.1] at hst
                  have hst := hid hst
                  have h1' : decide (1 ≤ z.n) = false := by simp; omega
                  go_wp2_with fail
                  go_roundw
                  case rel => first | exact ⟨t + 1, by omega, by go_num, by rw [hst.out], by (repeat (first | with_reducible exact Below.refl _ _ | ((with_reducible refine Below.alloc1 ?_ ?_ _); (· first | omega | (simp; done) | (simp; omega))) | (with_reducible refine Below.drew ?_) | (with_reducible refine below_drewN' ?_ _) | ((with_reducible refine Below.setCell1 ?_ ?_ _); (· first | omega | (simp; done) | (simp; omega))) | ((with_reducible refine Below.after (by assumption) ?_ ?_); (· first | omega | (simp; done) | (simp; omega)))))⟩ | ((repeat apply Exists.intro); exact ⟨⟨t + 1, by omega, by go_num, by rw [hst.out], by (repeat (first | with_reducible exact Below.refl _ _ | ((with_reducible refine Below.alloc1 ?_ ?_ _); (· first | omega | (simp; done) | (simp; omega))) | (with_reducible refine Below.drew ?_) | (with_reducible refine below_drewN' ?_ _) | ((with_reducible refine Below.setCell1 ?_ ?_ _); (· first | omega | (simp; done) | (simp; omega))) | ((with_reducible refine Below.after (by assumption) ?_ ?_); (· first | omega | (simp; done) | (simp; omega)))))⟩, rfl⟩)
                  case measure => simp [intOf]; omega
              · obtain rfl : t = 60 := by omega
                rw [HB.out, hbest.out]
                go_wp2_with fail
                go_roundw
                case rel => exact ⟨k + 1, by omega, by go_num, hb6.trans ((Below.trans hb7' (Below.mono (B := w7.heap.size) (by (repeat (first | with_reducible exact Below.refl _ _ | ((with_reducible refine Below.alloc1 ?_ ?_ _); (· first | omega | (simp; done) | (simp; omega))) | (with_reducible refine Below.drew ?_) | (with_reducible refine below_drewN' ?_ _) | ((with_reducible refine Below.setCell1 ?_ ?_ _); (· first | omega | (simp; done) | (simp; omega))) | ((with_reducible refine Below.after (by assumption) ?_ ?_); (· first | omega | (simp; done) | (simp; omega)))))) (by omega))).mono hz6)⟩
                case measure => simp [intOf]; omega
        · obtain rfl : k = N := by omega
          go_wp2_with fail
          go_ret
          exact ⟨rfl, (show Tab1 w _ T 64 its from (by first | assumption | exact Tab1.below (by assumption) (by (repeat (first | with_reducible exact Below.refl _ _ | ((with_reducible refine Below.alloc1 ?_ ?_ _); (· first | omega | (simp; done) | (simp; omega))) | (with_reducible refine Below.drew ?_) | (with_reducible refine below_drewN' ?_ _) | ((with_reducible refine Below.setCell1 ?_ ?_ _); (· first | omega | (simp; done) | (simp; omega))) | ((with_reducible refine Below.after (by assumption) ?_ ?_); (· first | omega | (simp; done) | (simp; omega)))))))).b⟩

theorem predsOrder_walk (a : Option Addr) (c : Nat) (ops : List OpV) (w : World) (ho : OAt w a ops) (hca : ops.length ≤ c ∧ c ≤ 9223372036854775807) :
    Calls Try.prog 9 #[.slice a ops.length c] w (Ret (.bool true) w) := by
  by_cases h : ops.length ≤ 60
  · exact predsOrder_short a c ops w ho hca h
  · exact predsOrder_cut a c ops w ho hca (by omega)
end Go.Proofs.Ytnlaepogkepnhaa.Q
