/- The walk of SerialOrders. -/
import Derived.Test.YtekmadgacepdfaaGreatTT
import Derived.Test.YtekmadgacepdfaaGreatMTI
namespace Go.Proofs.YtekmadgacepdfaaGreat.T
set_option linter.unusedVariables false
open Go.RowKit Fl Go.Shelf
set_option linter.unusedSimpArgs false

set_option maxHeartbeats 4000000 in
set_option maxRecDepth 100000 in
theorem serialOrders_walk (a : Option Addr) (c0 : Nat) (h0 : List DoneV) (w : World) (hh : HAt w a h0) (hcap : h0.length ≤ c0) :
  Calls Tryz.prog 7 #[.slice a h0.length c0] w (Ret (.bool true) w) := by
 have HF := hid fun W => few_any a c0 h0.length W hcap hh.len
 have HH := hid hh
 obtain ⟨n0, hn0⟩ : ∃ n0, n0 = h0.length := ⟨_, rfl⟩
 rw [← hn0] at HF hcap ⊢
 have HN0 := hid hn0
 clear hh hn0
 go_enter Tryz.func7, Tryz.ntmps7
 go_upto_region 3 with (go_at_call 25; (with_reducible refine (alive12_any _).mono ?_); rintro e w1 ⟨rfl, hb1⟩; obtain ⟨hc1, hf1⟩ := bcell hb1; (try simp only [World.heap_drewN, World.cell?_drewN, World.frozen?_drewN] at hc1 hf1); have hz1 := hb1.size; (try simp at hz1); (try have hy1_0 : w.heap.size < w1.heap.size := by omega); (try have hy1_1 : w.heap.size + 1 < w1.heap.size := by omega); (try have hx1_0 : w.heap.size ≤ w1.heap.size := by omega); (try have hx1_1 : w.heap.size + 1 ≤ w1.heap.size := by omega))
 go_wp2_with fail
 refine (HF.out w1).mono ?_
 rintro e w2 ⟨a', rfl, ha', rfl⟩
 obtain ⟨hh1, hl1⟩ := few_hat (HH.out.below hb1) (by rcases ha' with h | h; exact .inl h; exact .inr (by rw [← HN0.out]; exact h))
 rw [← HN0.out] at hl1
 have hcap1 : min n0 65 ≤ c0 := by omega
 have hn65 : min n0 65 ≤ 65 := by omega
 generalize h0.take 65 = h at *
 generalize min n0 65 = n at *
 have HX := hid hh1
 have HN := hid hl1
 have hsz1 := hb1.size
 clear hh1 hl1 HF HH HN0 hcap ha' hc1 hf1 hz1
 have hcap : n ≤ c0 := hcap1
 obtain ⟨rv, hrv⟩ : ∃ rv, rightV h = rv := ⟨_, rfl⟩
 have HRV := hid hrv
 have HRR := hid fun W (hb : Below w1.heap.size w1 W) => refRight_any a' c0 n h rv W HN.out (HX.out.below hb) ((right_ref h).trans hrv)
 have HOR := hid fun W (hb : Below w1.heap.size w1 W) => order_any a' c0 n h W HN.out hcap (HX.out.below hb)
 have HST := hid fun W (hb : Below w1.heap.size w1 W) => stuck_any a' c0 n h W HN.out hcap (HX.out.below hb)
 have HRO := hid fun (hr : rightV h = true) W (hb : Below w1.heap.size w1 W) => refOrder_any a' c0 n h W HN.out (HX.out.below hb) hr
 clear hrv
 cases rv
 ·have ho : ordV h = ([], false) := by unfold ordV; rw [if_neg (by rw [HRV.out]; simp)]
  have hs : sortV h = ([], []) := by unfold sortV; rw [if_neg (by rw [HRV.out]; simp)]
  rw [ho] at HOR
  rw [hs] at HST
  clear ho hs HRO
  go_wp2_with fail
  refine (HOR.out w1 (Below.refl _ _)).mono ?_
  rintro e w2 ⟨a2, c2, rfl, -, hb2⟩
  simp only [List.length_nil]
  go_wp2_with fail
  refine (HST.out w2 hb2).mono ?_
  rintro e w3 ⟨a3, c3, rfl, -, hb3⟩
  simp only [List.length_nil]
  have hb13 := hb2.trans (hb3.mono hb2.size)
  go_wp2_with fail
  refine (HRR.out w3 hb13).mono ?_
  rintro e w4 ⟨rfl, hb4⟩
  have hfin := (hb1.trans (hb13.mono hsz1)).trans (hb4.mono (Nat.le_trans hsz1 hb13.size))
  clear hb2 hb3 hb4 hb13
  go_wp2_with fail
  go_ret
  exact ⟨rfl, hfin⟩
 have hn64 : n ≤ 64 := by have := right_len HRV.out; rw [HN.out] at this; exact this
 have hcnt := sort_count HRV.out
 rw [HN.out] at hcnt
 have hlft := sort_left HRV.out
 have hrise := sort_rise h
 have hapart := sort_apart HRV.out
 have HRP := hid (HRO.out HRV.out)
 clear HRO
 have hord : ordV h = if (sortV h).2 = [] then ((sortV h).1, true) else ([], false) := by
  unfold ordV
  by_cases hz : (sortV h).2 = []
  ·rw [if_pos ⟨HRV.out, hz⟩, if_pos hz]
  ·rw [if_neg (fun hc => hz hc.2), if_neg hz]
 rw [hord] at HOR
 generalize hso : (sortV h).1 = o at *
 generalize hsl : (sortV h).2 = l at *
 have HCNT := hid hcnt; have HRI := hid hrise; have HAP := hid hapart
 clear hord hso hsl hrise hapart hcnt
 by_cases hl0 : l = []
 ·subst hl0
  rw [if_pos rfl] at HOR
  rw [show decide (([] : List Int) = []) = true from rfl] at HRP
  have hlo : o.length = n := by have := HCNT.out; simpa using this
  have HLO := hid hlo
  clear hlft hlo
  go_wp2_with fail
  refine (HOR.out w1 (Below.refl _ _)).mono ?_
  rintro e w2 ⟨a2, c2, rfl, hO2, hb2⟩
  have HN2 := hid (own_nat rfl hO2 (by have := HLO.out; simp only; unfold maxLen; omega))
  simp only
  clear hO2
  go_wp2_with fail
  refine (HST.out w2 hb2).mono ?_
  rintro e w3 ⟨a3, c3, rfl, -, hb3⟩
  simp only [List.length_nil]
  have hb13 := hb2.trans (hb3.mono hb2.size)
  have HN3 := hid (HN2.out.below hb3)
  clear hb2 hb3 HN2
  go_wp2_with fail
  refine (HRR.out w3 hb13).mono ?_
  rintro e w4 ⟨rfl, hb4⟩
  have hb14 := hb13.trans (hb4.mono hb13.size)
  have HN4 := hid (HN3.out.below hb4)
  clear hb13 hb4 HN3
  go_wp2_with fail
  refine (HRP.out w4 hb14).mono ?_
  rintro e w5 ⟨a5, c5, rfl, hO5, hb5⟩
  have HN5 := hid (own_nat rfl hO5 (by have := HLO.out; simp only; unfold maxLen; omega))
  have HN6 := hid (HN4.out.below hb5)
  have hb15 := hb14.trans (hb5.mono hb14.size)
  simp only
  clear hO5 hb5 hb14 HN4
  have HSM := hid (U.sameZ_any a2 a5 c2 c5 o.length o.length o o true w5 rfl rfl (nat_zat HN6.out) (nat_zat HN5.out) (by simp))
  have hfin := hb1.trans (hb15.mono hsz1)
  generalize o.length = no at *
  clear hb15 HN5 HN6
  go_wp2_with fail
  refine HSM.out.mono ?_
  rintro e w6 ⟨rfl, hb6⟩
  have hfin2 := hfin.trans (hb6.mono hfin.size)
  clear HSM hb6
  go_wp2_with fail
  go_ret
  exact ⟨rfl, hfin2⟩
 ·rw [if_neg hl0] at HOR
  rw [decide_eq_false hl0] at HRP
  have hl2 : 2 ≤ l.length := hlft.resolve_left hl0
  have HL2 := hid hl2
  clear hlft hl0 hl2
  go_wp2_with fail
  refine (HOR.out w1 (Below.refl _ _)).mono ?_
  rintro e w2 ⟨a2, c2, rfl, -, hb2⟩
  simp only [List.length_nil]
  go_wp2_with fail
  refine (HST.out w2 hb2).mono ?_
  rintro e w3 ⟨a3, c3, rfl, hO3, hb3⟩
  have hb13 := hb2.trans (hb3.mono hb2.size)
  have HN3 := hid (own_nat rfl hO3 (by have := HCNT.out; unfold maxLen; omega))
  clear hb2 hb3 hO3
  go_wp2_with fail
  refine (HRR.out w3 hb13).mono ?_
  rintro e w4 ⟨rfl, hb4⟩
  have hb14 := hb13.trans (hb4.mono hb13.size)
  have HN4 := hid (HN3.out.below hb4)
  clear hb13 hb4 HN3
  go_wp2_with fail
  refine (HRP.out w4 hb14).mono ?_
  rintro e w5 ⟨a5, c5, rfl, hO5, hb5⟩
  have HN5 := hid (own_nat rfl hO5 (by have := HCNT.out; simp only; unfold maxLen; omega))
  have HN6 := hid (HN4.out.below hb5)
  have hb15 := hb14.trans (hb5.mono hb14.size)
  simp only
  have hbw5 := hb1.trans (hb15.mono hsz1)
  obtain ⟨no, hno⟩ : ∃ no, no = o.length := ⟨_, rfl⟩
  obtain ⟨nl, hnl⟩ : ∃ nl, nl = l.length := ⟨_, rfl⟩
  have hcn := HCNT.out
  have hl2 := HL2.out
  rw [← hno, ← hnl] at hcn
  rw [← hnl] at hl2
  rw [← hno, ← hnl]
  have HNO := hid hno; have HNL := hid hnl
  have g1 : ¬ (nl : Int) < 2 := by omega
  have g2 : ((nl : Int) + (no : Int) != (n : Int)) = false := by simp; omega
  have g3 : decide ((nl : Int) < 2) = false := by rw [decide_eq_false_iff_not]; exact g1
  have hw5 := hbw5.size
  clear hO5 hb5 hb14 HN4 hno hnl hb15 hb1 hsz1 HOR HST HRR HRP HX HCNT HL2
  go_upto_region 16 with fail
  go_loopw [75] (fun t75 wr => ∃ i : Nat, t75 = .int .i64 (i : Nat) ∧ i ≤ nl ∧ Below w5.heap.size w5 wr) (fun t75 _ => nl - (intOf t75).toNat)
  case atStart => exact ⟨0, rfl, Nat.zero_le _, Below.refl _ _⟩
  case round =>
   obtain ⟨i, rfl, hi, hbi⟩ := hrel
   by_cases hil : i < nl
   ·have hil' : (i : Int) < (nl : Int) := by omega
    have hkl : i < l.length := by rw [← HNL.out]; exact hil
    have hsx : Hid (l[i]? = some (l[i]?.getD 0)) := hid (by rw [List.getElem?_eq_getElem hkl]; rfl)
    rcases (HN6.out.below hbi).row with h1 | ⟨b, oo, hao, hbl, hc⟩
    ·rw [h1] at hkl; simp at hkl
    have hci := hc i hkl
    have hcp : i = 0 ∨ ∃ j y, i = j + 1 ∧ wr.cell? ⟨b, oo + j, none⟩ = some (.int .i64 y) ∧ y < l[i]?.getD 0 := by
     rcases Nat.eq_zero_or_pos i with h | h
     ·exact .inl h
     ·have hj : i - 1 < l.length := by omega
      refine .inr ⟨i - 1, l[i - 1]?.getD 0, by omega, hc _ hj, ?_⟩
      have := List.pairwise_iff_getElem.1 HRI.out (i - 1) i hj hkl (by omega)
      rw [List.getElem?_eq_getElem hj, List.getElem?_eq_getElem hkl]
      exact this
    subst hao
    clear hc hkl
    generalize l[i]?.getD 0 = x at *
    have HXM := hid (HAP.out x (List.mem_of_getElem? hsx.out))
    have hwi := hbi.size
    rcases hcp with rfl | ⟨j, y, rfl, hcj, hyx⟩
    ·rw [Nat.add_zero] at hci
     have hil2 : (0 : Int) < (nl : Int) := by omega
     clear hil'
     go_upto_region 21 with fail
     go_loopw [93] (fun t93 wx => ∃ k : Nat, t93 = .int .i64 (k : Nat) ∧ k ≤ no ∧ Below w5.heap.size w5 wx) (fun t93 _ => no - (intOf t93).toNat)
     case atStart => exact ⟨0, rfl, Nat.zero_le _, hbi⟩
     case round =>
      obtain ⟨k, rfl, hk, hbk⟩ := hrel
      clear hbi
      by_cases hkn : k < no
      ·have hkn' : (k : Int) < (no : Int) := by omega
       have hko : k < o.length := by rw [← HNO.out]; exact hkn
       have hsk : Hid (o[k]? = some (o[k]?.getD 0)) := hid (by rw [List.getElem?_eq_getElem hko]; rfl)
       rcases (HN5.out.below hbk).row with h1 | ⟨bq, oq, haq, hbq, hcq⟩
       ·rw [h1] at hko; simp at hko
       have hcq := hcq k hko
       subst haq
       clear hko
       generalize o[k]?.getD 0 = z at *
       have hzx : (z == x) = false := by
        rw [beq_eq_false_iff_ne]
        rintro rfl
        exact HXM.out (List.mem_of_getElem? hsk.out)
       go_wp2_with fail
       go_roundw
       case rel => exact ⟨k + 1, by go_num, by omega, hbk⟩
       case measure => simp [intOf]; omega
      ·obtain rfl : k = no := by omega
       have hge : ¬ (k : Int) < (k : Int) := by omega
       go_wp2_with fail
       go_roundw
       case rel => exact ⟨1, by go_num, by omega, hbk⟩
       case measure => simp [intOf]; omega
    ·have hj1 : ((j + 1 : Nat) : Int) - 1 = (j : Int) := by omega
     have hj2 : (j : Int) + 1 - 1 = (j : Int) := by omega
     have hj3 : (0 : Int) < (j : Int) + 1 := by omega
     have hjl : (j : Int) < (nl : Int) := by omega
     have hyx2 : ¬ x ≤ y := by omega
     go_upto_region 21 with fail
     go_loopw [93] (fun t93 wx => ∃ k : Nat, t93 = .int .i64 (k : Nat) ∧ k ≤ no ∧ Below w5.heap.size w5 wx) (fun t93 _ => no - (intOf t93).toNat)
     case atStart => exact ⟨0, rfl, Nat.zero_le _, hbi⟩
     case round =>
      obtain ⟨k, rfl, hk, hbk⟩ := hrel
      clear hbi
      by_cases hkn : k < no
      ·have hkn' : (k : Int) < (no : Int) := by omega
       have hko : k < o.length := by rw [← HNO.out]; exact hkn
       have hsk : Hid (o[k]? = some (o[k]?.getD 0)) := hid (by rw [List.getElem?_eq_getElem hko]; rfl)
       rcases (HN5.out.below hbk).row with h1 | ⟨bq, oq, haq, hbq, hcq⟩
       ·rw [h1] at hko; simp at hko
       have hcq := hcq k hko
       subst haq
       clear hko
       generalize o[k]?.getD 0 = z at *
       have hzx : (z == x) = false := by
        rw [beq_eq_false_iff_ne]
        rintro rfl
        exact HXM.out (List.mem_of_getElem? hsk.out)
       go_wp2_with fail
       go_roundw
       case rel => exact ⟨k + 1, by go_num, by omega, hbk⟩
       case measure => simp [intOf]; omega
      ·obtain rfl : k = no := by omega
       have hge : ¬ (k : Int) < (k : Int) := by omega
       go_wp2_with fail
       go_roundw
       case rel => exact ⟨j + 1 + 1, by go_num, by omega, hbk⟩
       case measure => simp [intOf]; omega
   ·obtain rfl : i = nl := by omega
    have hge : ¬ (i : Int) < (i : Int) := by omega
    have hfin := hbw5.trans (hbi.mono hw5)
    go_wp2_with fail
    go_ret
    exact ⟨rfl, hfin⟩
end Go.Proofs.YtekmadgacepdfaaGreat.T
