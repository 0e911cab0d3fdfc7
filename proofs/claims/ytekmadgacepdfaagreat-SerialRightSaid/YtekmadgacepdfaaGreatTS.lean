/- The walk of SerialRight. -/
import Derived.Test.YtekmadgacepdfaaGreatMTQ
import Derived.Test.YtekmadgacepdfaaGreatMTI
namespace Go.Proofs.YtekmadgacepdfaaGreat.T
set_option linter.unusedVariables false
open Go.RowKit Fl Go.Shelf
set_option linter.unusedSimpArgs false

theorem edges_pre {h : List DoneV} (hr : rightV h = true) {i : Nat} {x : DoneV} (hx : h[i]? = some x) (j : Nat) : ∃ r, edgesV h = outE h i ++ rowE h x j ++ r := by
 have hil := (List.getElem?_eq_some_iff.1 hx).1
 have e1 : edgesV h = outE h h.length := by unfold edgesV outE; rw [if_pos hr, List.take_length]
 have e2 : outE h h.length = outE h (i + 1) ++ (h.drop (i + 1)).flatMap fun a => (h.filter fun b => leadsV a b).map fun b => (a.num, b.num) := by
  unfold outE
  rw [← List.flatMap_append, List.take_append_drop, List.take_length]
 have e3 : rowE h x h.length = rowE h x j ++ ((h.drop j).filter fun b => leadsV x b).map fun b => (x.num, b.num) := by
  unfold rowE
  rw [← List.map_append, ← List.filter_append, List.take_append_drop, List.take_length]
 rw [e1, e2, outE_snoc h x hx, e3]
 exact ⟨((h.drop j).filter fun b => leadsV x b).map (fun b => (x.num, b.num)) ++ (h.drop (i + 1)).flatMap fun a => (h.filter fun b => leadsV a b).map fun b => (a.num, b.num), by simp only [List.append_assoc]⟩
theorem edges_next {h : List DoneV} (hr : rightV h = true) {i j : Nat} {x y : DoneV} (hx : h[i]? = some x) (hy : h[j]? = some y) (hl : leadsV x y = true) :
  (edgesV h)[(outE h i ++ rowE h x j).length]? = some (x.num, y.num) := by
 obtain ⟨r, hr⟩ := edges_pre hr hx (j + 1)
 rw [hr, rowE_snoc h x y hy, if_pos hl, ← List.append_assoc, List.append_assoc, List.getElem?_append_right (Nat.le_refl _), Nat.sub_self]
 rfl
set_option maxHeartbeats 4000000 in
set_option maxRecDepth 100000 in
theorem serialRight_walk (a : Option Addr) (c0 : Nat) (h0 : List DoneV) (w : World) (hh : HAt w a h0) (hcap : h0.length ≤ c0) :
  Calls Tryz.prog 6 #[.slice a h0.length c0] w (Ret (.bool true) w) := by
 have HF := hid fun W => few_any a c0 h0.length W hcap hh.len
 have HH := hid hh
 obtain ⟨n0, hn0⟩ : ∃ n0, n0 = h0.length := ⟨_, rfl⟩
 rw [← hn0] at HF hcap ⊢
 have HN0 := hid hn0
 clear hh hn0
 go_enter Tryz.func6, Tryz.ntmps6
 go_upto_region 3 with (go_at_call 25; (with_reducible refine (alive12_any _).mono ?_); rintro e w1 ⟨rfl, hb1⟩; obtain ⟨hc1, hf1⟩ := bcell hb1; (try simp only [World.heap_drewN, World.cell?_drewN, World.frozen?_drewN] at hc1 hf1); have hz1 := hb1.size; (try simp at hz1); (try have hy1_0 : w.heap.size < w1.heap.size := by omega); (try have hy1_1 : w.heap.size + 1 < w1.heap.size := by omega); (try have hx1_0 : w.heap.size ≤ w1.heap.size := by omega); (try have hx1_1 : w.heap.size + 1 ≤ w1.heap.size := by omega))
 go_wp2_with fail
 refine (HF.out w1).mono ?_
 rintro e w2 ⟨a', rfl, ha', rfl⟩
 obtain ⟨hh1, hl1⟩ := few_hat (HH.out.below hb1) (by rcases ha' with h | h; exact .inl h; exact .inr (by rw [← HN0.out]; exact h))
 rw [← HN0.out] at hl1
 have hcap1 : min n0 65 ≤ c0 := by omega
 have hn65 : min n0 65 ≤ 65 := by omega
 generalize h0.take 65 = h at *
 generalize min n0 65 = n at *
 have HX := hid hh1
 have HN := hid hl1
 have hsz1 := hb1.size
 clear hh1 hl1 HF HH HN0 hcap ha' hc1 hf1 hz1
 have hcap : n ≤ c0 := hcap1
 obtain ⟨rv, hrv⟩ : ∃ rv, rightV h = rv := ⟨_, rfl⟩
 have HRV := hid hrv
 have HRR := hid fun W (hb : Below w1.heap.size w1 W) => refRight_any a' c0 n h rv W HN.out (HX.out.below hb) ((right_ref h).trans hrv)
 have HRT := hid fun W (hb : Below w1.heap.size w1 W) => right_any a' c0 n h rv W HN.out hcap (HX.out.below hb) hrv
 have HED := hid fun W (hb : Below w1.heap.size w1 W) => edges_any a' c0 n h W HN.out hcap (HX.out.below hb)
 clear hrv
 go_wp2_with fail
 refine (HRR.out w1 (Below.refl _ _)).mono ?_
 rintro e w2 ⟨rfl, hb2⟩
 have hbw2 := hb1.trans (hb2.mono hsz1)
 clear HRR
 go_wp2_with fail
 refine (HED.out w2 hb2).mono ?_
 rintro e w3 ⟨ae, ce, rfl, hE, hb3⟩
 have hb13 := hb2.trans (hb3.mono hb2.size)
 have HRT3 := hid (HRT.out w3 hb13)
 have hbw3 := hb1.trans (hb13.mono hsz1)
 cases rv
 ·have hed : edgesV h = [] := by unfold edgesV; rw [HRV.out]; rfl
  rw [hed] at hE ⊢
  simp only [List.length_nil]
  have HRT4 := HRT3.out
  clear HRT3 HRT HED hE hed hb2 hb3 hb13 hbw2
  go_wp2_with fail
  refine HRT4.mono ?_
  rintro e w4 ⟨rfl, hb4⟩
  have hfin := hbw3.trans (hb4.mono hbw3.size)
  clear HRT4
  go_wp2_with fail
  go_ret
  exact ⟨rfl, hfin⟩
 have hn64 : n ≤ 64 := by have := right_len HRV.out; rw [HN.out] at this; exact this
 have hEL : (edgesV h).length ≤ 4096 := by
  have h1 := outE_len h h.length
  have h2 : edgesV h = outE h h.length := by unfold edgesV outE; rw [if_pos HRV.out, List.take_length]
  rw [h2]
  refine Nat.le_trans h1 ?_
  rw [HN.out]
  exact Nat.mul_le_mul (by omega : n ≤ 64) (by omega : n ≤ 64)
 have HNX := hid fun (i j : Nat) (x y : DoneV) (hx : h[i]? = some x) (hy : h[j]? = some y) (hl : leadsV x y = true) => edges_next HRV.out hx hy hl
 have HALL : Hid (edgesV h = outE h n) := hid (by unfold edgesV outE; rw [if_pos HRV.out, ← HN.out, List.take_length])
 obtain ⟨l, hl⟩ : ∃ l, l = edgesV h := ⟨_, rfl⟩
 rw [← hl] at hE hEL HNX HALL ⊢
 obtain ⟨E, hEe⟩ : ∃ E, E = l.length := ⟨_, rfl⟩
 rw [← hEe] at hE hEL ⊢
 have HEE := hid hEe
 have HE3 := hid hE
 have HRT4 := HRT3.out
 clear HRT3 HRT HED hE hb2 hb3 hbw2 hl hEe
 go_wp2_with fail
 refine HRT4.mono ?_
 rintro e w4 ⟨rfl, hb4⟩
 have hbw4 := hbw3.trans (hb4.mono hbw3.size)
 have HE4 := hid (own_keep HE3.out fun q cur _ hq => hb4.block q (Array.getElem?_eq_some_iff.1 hq).1)
 have HX4 := hid fun W (hb : Below w4.heap.size w4 W) => (HX.out.below hb13).below ((hb4.mono (Nat.le_refl _)).trans (hb.mono hb4.size))
 have hw4 := hbw4.size
 clear HRT4 HE3 hbw3 hb13 hb4 HX
 go_upto_region 12 with fail
 go_loopw [5, 29] (fun t5 t29 wr => ∃ i k : Nat, t29 = .int .i64 (i : Nat) ∧ t5 = .int .i64 (k : Nat) ∧ i ≤ n ∧ Hid (k = (outE h i).length) ∧ Below w4.heap.size w4 wr) (fun _ t29 _ => n - (intOf t29).toNat)
 case atStart => exact ⟨0, 0, rfl, rfl, Nat.zero_le _, hid rfl, Below.refl _ _⟩
 case round =>
  obtain ⟨i, k, rfl, rfl, hi, HK, hbi⟩ := hrel
  by_cases hlt : i < n
  ·have hkl : i < h.length := by rw [HN.out]; exact hlt
   have hlt' : (i : Int) < (n : Int) := by omega
   have hkx : Hid (h[i]? = some (h[i]?.getD default)) := hid (by rw [List.getElem?_eq_getElem hkl]; rfl)
   rcases (HX4.out _ hbi).row with h0 | ⟨b, o, ha, hbl, hc⟩
   ·rw [h0] at hkl; simp at hkl
   have hc := hc i hkl
   have HS := hid fun W (hb : Below w4.heap.size w4 W) => (HX4.out W hb).sub i hkl
   subst ha
   clear hkl
   generalize h[i]?.getD default = x at *
   have c0 : wr.cell? ⟨b, o + i * 7, none⟩ = some (.int .i64 x.num) := hc 0 _ rfl
   have c1 := hc 1 _ rfl
   have c2 := hc 2 _ rfl
   have c3 := hc 3 _ rfl
   have c4 := hc 4 _ rfl
   have c5 := hc 5 _ rfl
   have c6 := hc 6 _ rfl
   clear hc
   have hbz : Below wr.heap.size wr (wr.alloc (.cells (dEnc x).toArray 73 (0, 0))) := Below.alloc1 (Nat.le_refl _) (Below.refl _ _) _
   have hX5 : DBoxH (wr.alloc (.cells (dEnc x).toArray 73 (0, 0))) wr.heap.size x := heap_alloc_new _ _
   have hb5 := hbi.trans (hbz.mono hbi.size)
   have HX5 := hid hX5
   have hpw := hbi.size
   go_upto_region 15 with fail
   have hW5 : wr.alloc (.cells (dEnc x).toArray 73 (0, 0)) = wr.alloc (.cells #[.int .i64 x.num, .int .i64 x.s.s0, .int .i64 x.s.s1, .int .i64 x.s.s2, .slice x.s.ra x.s.rs.length x.s.rc, .slice x.s.sa x.s.ss.length x.s.sc, .slice x.s.wa x.s.ws.length x.s.wc] 73) := rfl
   rw [hW5] at hb5 HX5
   clear hW5 hX5 hbz c0 c1 c2 c3 c4 c5 c6
   generalize wr.alloc (.cells #[.int .i64 x.num, .int .i64 x.s.s0, .int .i64 x.s.s1, .int .i64 x.s.s2, .slice x.s.ra x.s.rs.length x.s.rc, .slice x.s.sa x.s.ss.length x.s.sc, .slice x.s.wa x.s.ws.length x.s.wc] 73) = W5 at *
   generalize wr.heap.size = P5 at *
   clear hbi
   go_loopw [5, 35] (fun t5 t35 wx => ∃ j m : Nat, t35 = .int .i64 (j : Nat) ∧ t5 = .int .i64 (m : Nat) ∧ j ≤ n ∧ Hid (m = (outE h i ++ rowE h x j).length) ∧ Hid (DBoxH wx P5 x) ∧ Below w4.heap.size w4 wx) (fun _ t35 _ => n - (intOf t35).toNat)
   case atStart => exact ⟨0, k, rfl, rfl, Nat.zero_le _, hid (by rw [HK.out]; simp [rowE]), HX5, hb5⟩
   case round =>
    obtain ⟨j, m, rfl, rfl, hj, HM, HBX, hbx⟩ := hrel
    clear HX5 hb5
    by_cases hjl : j < n
    ·have hkl : j < h.length := by rw [HN.out]; exact hjl
     have hjl' : (j : Int) < (n : Int) := by omega
     have hky : Hid (h[j]? = some (h[j]?.getD default)) := hid (by rw [List.getElem?_eq_getElem hkl]; rfl)
     rcases (HX4.out _ hbx).row with h0 | ⟨b', o', ha, hbl', hc⟩
     ·rw [h0] at hkl; simp at hkl
     cases ha
     have hc := hc j hkl
     have HSY := hid fun W (hb : Below w4.heap.size w4 W) => (HX4.out W hb).sub j hkl
     clear hkl
     generalize h[j]?.getD default = y at *
     have d0 : wr.cell? ⟨b, o + j * 7, none⟩ = some (.int .i64 y.num) := hc 0 _ rfl
     have d1 := hc 1 _ rfl
     have d2 := hc 2 _ rfl
     have d3 := hc 3 _ rfl
     have d4 := hc 4 _ rfl
     have d5 := hc 5 _ rfl
     have d6 := hc 6 _ rfl
     clear hc
     have hB := HBX.out.box
     have g0 := hB.2 0 _ rfl
     have g1 := hB.2 1 _ rfl
     have g2 := hB.2 2 _ rfl
     have g3 := hB.2 3 _ rfl
     have g4 := hB.2 4 _ rfl
     have g5 := hB.2 5 _ rfl
     have g6 := hB.2 6 _ rfl
     have hp5 := hB.1
     have hsz := hbx.size
     clear hB
     have HLD := fun lv hlv W (hw : Below w4.heap.size w4 W) => refLeads_any x y lv W (HS.out W hw) (HSY.out W hw) hlv
     obtain ⟨lv, hlv⟩ : ∃ lv, leadsV x y = lv := ⟨_, rfl⟩
     have HLD := HLD lv hlv
     have HLV := hid hlv
     clear hlv
     have hrow := rowE_snoc h x y hky.out
     rw [HLV.out] at hrow
     have HROW := hid hrow
     clear hrow
     cases lv
     ·go_wp2_with (go_at_call 30; (with_reducible refine (HLD _ (by exact below_auto)).mono ?_); rintro e w1 ⟨rfl, hb1⟩; obtain ⟨hc1, hf1⟩ := bcell hb1; (try simp only [World.heap_drewN, World.cell?_drewN, World.frozen?_drewN] at hc1 hf1); have hz1 := hb1.size; (try simp at hz1); (try have hy1_0 : w.heap.size < w1.heap.size := by omega); (try have hy1_1 : w.heap.size + 1 < w1.heap.size := by omega); (try have hx1_0 : w.heap.size ≤ w1.heap.size := by omega); (try have hx1_1 : w.heap.size + 1 ≤ w1.heap.size := by omega); (try have hu1_wr_0 : wr.heap.size < w1.heap.size := by omega))
      have hbB : Below wr.heap.size wr w1 := ((Below.alloc1 (Nat.le_refl _) (Below.refl _ _) _).trans (hb1.mono (by simp)))
      go_roundw
      case rel => exact ⟨j + 1, m, by go_num, rfl, by omega, hid (by rw [HROW.out, HM.out]; simp), hid (HBX.out.below hbB), hbx.trans (hbB.mono hbx.size)⟩
      case measure => simp [intOf]; omega
     ·have hsome := HNX.out i j x y hkx.out hky.out HLV.out
      rw [← HM.out] at hsome
      have hml : m < l.length := (List.getElem?_eq_some_iff.1 hsome).1
      have hmE : m < E := by rw [HEE.out]; exact hml
      rw [List.getElem?_eq_getElem hml] at hsome
      have hrow := HE4.out
      rcases hrow.2 with ⟨_, h2⟩ | ⟨g, cap, cur, h1, -⟩
      ·omega
      injection h1 with ha2 _ hcap2
      subst ha2; subst hcap2
      have q0 := hrow.cells (g := g) rfl (m * 2 + 0) _ (eCells_at hml (t := 0) rfl)
      have q1 := hrow.cells (g := g) rfl (m * 2 + 1) _ (eCells_at hml (t := 1) rfl)
      rw [Option.some.inj hsome] at q0 q1
      rw [K.addr0] at q0 q1
      rw [Nat.add_zero] at q0
      have hgl := (hrow.lt g rfl).2
      have r0 := (hbx.cell (p := ⟨g, m * 2, none⟩) hgl).trans q0
      have r1 := (hbx.cell (p := ⟨g, m * 2 + 1, none⟩) hgl).trans q1
      have hgr : g < wr.heap.size := Nat.lt_of_lt_of_le hgl hbx.size
      have hge : ¬ (E : Int) ≤ (m : Int) := by omega
      have hge2 : decide ((E : Int) ≤ (m : Int)) = false := by rw [decide_eq_false_iff_not]; exact hge
      have hmE2 : (m : Int) < (E : Int) := by omega
      clear hrow q0 q1 hsome
      go_upto_region 18 with (go_at_call 30; (with_reducible refine (HLD _ (by exact below_auto)).mono ?_); rintro e w1 ⟨rfl, hb1⟩; obtain ⟨hc1, hf1⟩ := bcell hb1; (try simp only [World.heap_drewN, World.cell?_drewN, World.frozen?_drewN] at hc1 hf1); have hz1 := hb1.size; (try simp at hz1); (try have hy1_0 : w.heap.size < w1.heap.size := by omega); (try have hy1_1 : w.heap.size + 1 < w1.heap.size := by omega); (try have hx1_0 : w.heap.size ≤ w1.heap.size := by omega); (try have hx1_1 : w.heap.size + 1 ≤ w1.heap.size := by omega); (try have hu1_wr_0 : wr.heap.size < w1.heap.size := by omega))
      have hbB : Below wr.heap.size wr w1 := ((Below.alloc1 (Nat.le_refl _) (Below.refl _ _) _).trans (hb1.mono (by simp)))
      have hX1 := hid (HBX.out.below hbB)
      have hb01 := hbx.trans (hbB.mono hbx.size)
      have x0 := hX1.out.box.2 0 _ rfl
      have y0 : w1.cell? ⟨wr.heap.size, 0, none⟩ = some (.int .i64 y.num) := by
       rw [hc1 _ _ (by simp)]; simp [go_sem]
      have s0 := (hbB.cell (p := ⟨g, m * 2, none⟩) hgr).trans r0
      have s1 := (hbB.cell (p := ⟨g, m * 2 + 1, none⟩) hgr).trans r1
      have hgr1 : g < w1.heap.size := Nat.lt_of_lt_of_le hgr hbB.size
      have hp51 : P5 < w1.heap.size := hX1.out.box.1
      have hp52 : wr.heap.size < w1.heap.size := by have := hb1.size; simp at this; omega
      clear d0 d1 d2 d3 d4 d5 d6 g0 g1 g2 g3 g4 g5 g6 r0 r1 hc1 hf1
      go_quiet (fail)
      go_wp2_with fail
      have hbQ := hb01
      go_roundw
      case rel => exact ⟨j + 1, m + 1, by go_num, by go_num, by omega, hid (by rw [HROW.out, ← List.append_assoc, List.length_append, ← HM.out]; rfl), hid (hX1.out.below (below_drewN' (Below.refl _ _) _)), below_drewN' hb01 _⟩
      case measure => simp [intOf]; omega
    ·obtain rfl : j = n := by omega
     have hge : ¬ (j : Int) < (j : Int) := by omega
     have hsn : outE h i ++ rowE h x j = outE h (i + 1) := by rw [outE_snoc h x hkx.out, HN.out]
     have HM4 : Hid (m = (outE h (i + 1)).length) := hid (by rw [← hsn]; exact HM.out)
     clear hsn
     go_wp2_with fail
     go_roundw
     case rel => exact ⟨i + 1, m, by go_num, rfl, by omega, HM4, hbx⟩
     case measure => simp [intOf]; omega
  ·obtain rfl : i = n := by omega
   have hge : ¬ (i : Int) < (i : Int) := by omega
   have hk : k = E := by rw [HK.out, ← HALL.out, HEE.out]
   subst hk
   have hfin := hbw4.trans (hbi.mono hw4)
   go_wp2_with fail
   go_ret
   exact ⟨rfl, hfin⟩
end Go.Proofs.YtekmadgacepdfaaGreat.T
