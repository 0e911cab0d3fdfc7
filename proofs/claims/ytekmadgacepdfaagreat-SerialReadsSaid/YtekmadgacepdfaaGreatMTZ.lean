/- Several texts as one: TZ TX. -/
import Derived.Test.YtekmadgacepdfaaGreatTT
import Derived.Test.YtekmadgacepdfaaGreatMTI
namespace Go.Proofs.YtekmadgacepdfaaGreat.T
set_option linter.unusedVariables false
open Go.RowKit Fl Go.Shelf
set_option linter.unusedSimpArgs false

set_option maxHeartbeats 1000000 in
set_option maxRecDepth 100000 in
theorem refVersion_any (a : Option Addr) (c n : Nat) (h : List DoneV) (key : Nat) (snap : Int) (w : World) (hn : h.length = n) (hh : HAt w a h) :
  Calls Tryz.prog 66 #[.slice a n c, .float .f64 key, .int .i64 snap] w (Ret (.int .i64 (versionV h key snap)) w) := by
 have hm := hh.len
 rw [hn] at hm
 have HX := hid hh
 have HN := hid hn
 clear hh hn
 go_enter Tryz.func66, Tryz.ntmps66
 go_upto_region 3 with fail
 go_loopw [7, 8] (fun t7 t8 wr => ∃ k : Nat, t8 = .int .i64 (k : Nat) ∧ t7 = .int .i64 (versionV (h.take k) key snap) ∧ k ≤ n ∧ Below w.heap.size w wr) (fun _ t8 _ => n - (intOf t8).toNat)
 case atStart => exact ⟨0, rfl, rfl, Nat.zero_le _, Below.refl _ _⟩
 case round =>
  obtain ⟨k, rfl, rfl, hk, hbw⟩ := hrel
  by_cases hlt : k < n
  ·have hkl : k < h.length := by rw [HN.out]; exact hlt
   have hlt' : (k : Int) < (n : Int) := by omega
   have hsz := hbw.size
   have hkx : Hid (h[k]? = some (h[k]?.getD default)) := hid (by rw [List.getElem?_eq_getElem hkl]; rfl)
   rcases (HX.out.below hbw).row with h0 | ⟨b, o, ha, hbl, hc⟩
   ·rw [h0] at hkl; simp at hkl
   subst ha
   have hc := hc k hkl
   have HS := hid (HX.out.sub k hkl)
   clear hkl
   generalize h[k]?.getD default = x at *
   have c0 : wr.cell? ⟨b, o + k * 7, none⟩ = some (.int .i64 x.num) := hc 0 _ rfl
   have c1 := hc 1 _ rfl
   have c2 := hc 2 _ rfl
   have c3 := hc 3 _ rfl
   have c4 := hc 4 _ rfl
   have c5 := hc 5 _ rfl
   have c6 := hc 6 _ rfl
   clear hc
   have HW := fun W (hb : Below w.heap.size w W) => refWrites_any x.s key W (HS.out.below hb)
   have HSN := hid (ver_snoc (k := key) (snap := snap) hkx.out)
   generalize versionV (h.take k) key snap = v at *
   obtain ⟨bw, hbw'⟩ : ∃ bw, x.s.writes key = bw := ⟨_, rfl⟩
   rw [hbw'] at HW
   have HBW := hid hbw'
   clear hbw'
   by_cases q1 : x.num ≤ snap
   ·cases bw
    ·have HV : Hid (v = versionV (h.take (k + 1)) key snap) := hid (by rw [HSN.out, HBW.out]; simp)
     go_wp2_with (go_at_call 38; (with_reducible refine (HW _ (by exact below_auto)).mono ?_); rintro e w1 ⟨rfl, hb1⟩; obtain ⟨hc1, hf1⟩ := bcell hb1; (try simp only [World.heap_drewN, World.cell?_drewN, World.frozen?_drewN] at hc1 hf1); have hz1 := hb1.size; (try simp at hz1); (try have hy1_0 : w.heap.size < w1.heap.size := by omega); (try have hy1_1 : w.heap.size + 1 < w1.heap.size := by omega); (try have hx1_0 : w.heap.size ≤ w1.heap.size := by omega); (try have hx1_1 : w.heap.size + 1 ≤ w1.heap.size := by omega))
     go_roundw
     case rel => exact ⟨k + 1, by go_num, by rw [← HV.out], by omega, by exact below_auto⟩
     case measure => simp [intOf]; omega
    ·have HV : Hid (x.num = versionV (h.take (k + 1)) key snap) := hid (by rw [HSN.out, HBW.out]; simp [q1])
     go_wp2_with (go_at_call 38; (with_reducible refine (HW _ (by exact below_auto)).mono ?_); rintro e w1 ⟨rfl, hb1⟩; obtain ⟨hc1, hf1⟩ := bcell hb1; (try simp only [World.heap_drewN, World.cell?_drewN, World.frozen?_drewN] at hc1 hf1); have hz1 := hb1.size; (try simp at hz1); (try have hy1_0 : w.heap.size < w1.heap.size := by omega); (try have hy1_1 : w.heap.size + 1 < w1.heap.size := by omega); (try have hx1_0 : w.heap.size ≤ w1.heap.size := by omega); (try have hx1_1 : w.heap.size + 1 ≤ w1.heap.size := by omega); (try have hu1_wr_0 : wr.heap.size < w1.heap.size := by omega))
     go_roundw
     case rel => exact ⟨k + 1, by go_num, by rw [← HV.out], by omega, by exact below_auto⟩
     case measure => simp [intOf]; omega
   ·have HV : Hid (v = versionV (h.take (k + 1)) key snap) := hid (by rw [HSN.out]; simp [q1])
    clear HW
    go_wp2_with fail
    go_roundw
    case rel => exact ⟨k + 1, by go_num, by rw [← HV.out], by omega, by exact below_auto⟩
    case measure => simp [intOf]; omega
  ·obtain rfl : k = n := by omega
   have hge : ¬ (k : Int) < (k : Int) := by omega
   have htk : h.take k = h := by rw [← HN.out]; exact List.take_length
   rw [htk]
   generalize versionV h key snap = v at *
   go_wp2_with fail
   go_ret
   exact ⟨rfl, hbw⟩
set_option maxHeartbeats 4000000 in
set_option maxRecDepth 100000 in
theorem refReads_any12 (a ao : Option Addr) (c co n no : Nat) (h : List DoneV) (order : List Int) (v : Bool) (w : World) (hn : h.length = n) (hh : HAt w a h) (hno : order.length = no) (ho : NAt w ao order) (hr : rightV h = true) (hv : refReadsV h order = v) :
  Calls Tryz.prog 36 #[.slice a n c, .slice ao no co] w (Ret (.bool v) w) := by
 have hm := right_len hr
 rw [hn] at hm
 have hm2 := ho.len
 rw [hno] at hm2
 unfold maxLen at hm2
 have HX := hid hh
 have HN := hid hn
 have HO := hid ho
 have HNO := hid hno
 have HR := hid hr
 have HV : Hid (v = ((decide (order.length = h.length) && permOk h order) && (List.range order.length).all fun i => (keysV h).all fun k => rdOk h order k i)) := hid hv.symm
 have HLT := hid hh.keys_lt
 have hkl : (keysV h).length ≤ 1024 := Nat.le_trans (keys_le fun d hd => by
  obtain ⟨i, hi, rfl⟩ := List.mem_iff_getElem.1 hd
  exact check_ws (right_num hr (List.getElem?_eq_getElem hi)).2.1) (by rw [hn]; omega)
 have HKL := hid hkl
 clear hh hn ho hno hr hv hkl
 by_cases hlen : no = n
 rotate_left
 ·have HV0 : v = false := by rw [HV.out, show decide (order.length = h.length) = false by rw [HNO.out, HN.out]; simpa using hlen]; rfl
  subst HV0
  have hb : ((no : Int) != (n : Int)) = true := by simp; omega
  clear HV HX HO hlen
  go_enter Tryz.func36, Tryz.ntmps36
  go_wp2_with fail
  go_ret
  exact ⟨rfl, Below.refl _ _⟩
 subst hlen
 have hb : ((no : Int) != (no : Int)) = false := by simp
 go_enter Tryz.func36, Tryz.ntmps36
 go_upto_region 4 with fail
 go_loopw [5] (fun t5 wr => ∃ k : Nat, t5 = .int .i64 (k : Nat) ∧ k ≤ no ∧ Hid (∀ (j : Nat) d, j < k → h[j]? = some d → order.contains d.num = true) ∧ Below w.heap.size w wr) (fun t5 _ => no - (intOf t5).toNat)
 case atStart => exact ⟨0, rfl, Nat.zero_le _, hid fun j _ hj => absurd hj (Nat.not_lt_zero _), Below.refl _ _⟩
 case round =>
  obtain ⟨k, rfl, hk, HJ, hbw⟩ := hrel
  by_cases hlt : k < no
  ·have hkl : k < h.length := by rw [HN.out]; exact hlt
   have hlt' : (k : Int) < (no : Int) := by omega
   have hsz := hbw.size
   have hkx : Hid (h[k]? = some (h[k]?.getD default)) := hid (by rw [List.getElem?_eq_getElem hkl]; rfl)
   rcases (HX.out.below hbw).row with h0 | ⟨b, o, ha, hbl, hc⟩
   ·rw [h0] at hkl; simp at hkl
   subst ha
   have hc := hc k hkl
   clear hkl
   generalize h[k]?.getD default = x at *
   have c0 : wr.cell? ⟨b, o + k * 7, none⟩ = some (.int .i64 x.num) := hc 0 _ rfl
   clear hc
   obtain ⟨bv, hbv⟩ : ∃ bv, order.contains x.num = bv := ⟨_, rfl⟩
   have HH := has_any ao co no order x.num bv wr HNO.out (HO.out.below hbw) hbv
   have HBV := hid hbv
   clear hbv
   cases bv
   ·have hvf : v = false := by
     have hp : permOk h order = false := by
      unfold permOk
      rw [List.all_eq_false]
      exact ⟨x, List.mem_of_getElem? hkx.out, by rw [HBV.out]; simp⟩
     rw [HV.out, hp]; simp
    subst hvf
    clear HV
    go_wp2_with (go_at_call 60; (with_reducible refine (HH).mono ?_); rintro e w1 ⟨rfl, hb1⟩; obtain ⟨hc1, hf1⟩ := bcell hb1; (try simp only [World.heap_drewN, World.cell?_drewN, World.frozen?_drewN] at hc1 hf1); have hz1 := hb1.size; (try simp at hz1); (try have hy1_0 : w.heap.size < w1.heap.size := by omega); (try have hy1_1 : w.heap.size + 1 < w1.heap.size := by omega); (try have hx1_0 : w.heap.size ≤ w1.heap.size := by omega); (try have hx1_1 : w.heap.size + 1 ≤ w1.heap.size := by omega))
    go_ret
    exact ⟨rfl, by exact below_auto⟩
   ·have HJ2 : Hid (∀ (j : Nat) d, j < k + 1 → h[j]? = some d → order.contains d.num = true) := hid fun j d hj hd => by
     by_cases hjk : j < k
     ·exact HJ.out j d hjk hd
     ·obtain rfl : j = k := by omega
      rw [hkx.out] at hd
      cases hd
      exact HBV.out
    go_wp2_with (go_at_call 60; (with_reducible refine (HH).mono ?_); rintro e w1 ⟨rfl, hb1⟩; obtain ⟨hc1, hf1⟩ := bcell hb1; (try simp only [World.heap_drewN, World.cell?_drewN, World.frozen?_drewN] at hc1 hf1); have hz1 := hb1.size; (try simp at hz1); (try have hy1_0 : w.heap.size < w1.heap.size := by omega); (try have hy1_1 : w.heap.size + 1 < w1.heap.size := by omega); (try have hx1_0 : w.heap.size ≤ w1.heap.size := by omega); (try have hx1_1 : w.heap.size + 1 ≤ w1.heap.size := by omega))
    go_roundw
    case rel => exact ⟨k + 1, by go_num, by omega, HJ2, by exact below_auto⟩
    case measure => simp [intOf]; omega
  ·obtain rfl : k = no := by omega
   have hge : ¬ (k : Int) < (k : Int) := by omega
   have hpo : permOk h order = true := by
    unfold permOk
    rw [List.all_eq_true]
    intro d hd
    obtain ⟨j, hj⟩ := List.mem_iff_getElem?.1 hd
    have := (List.getElem?_eq_some_iff.1 hj).1
    exact HJ.out j d (by have := HN.out; omega) hj
   have HPERM := hid (perm_of_ok HR.out (by rw [HNO.out, HN.out]) hpo)
   have HV2 : Hid (v = (List.range k).all fun i => (keysV h).all fun key => rdOk h order key i) := hid (by
    rw [HV.out, hpo, show decide (order.length = h.length) = true by rw [HNO.out, HN.out]; simp, HNO.out]; rfl)
   have HKY := hid (refKeys_any a c k h wr HN.out (HX.out.below hbw) hm HKL.out)
   clear HV HJ hpo
   go_wp2_with fail
   refine HKY.out.mono ?_
   rintro e w1 ⟨ak, ck, rfl, hK, hb1⟩
   have hbw1 := hbw.trans (hb1.mono hbw.size)
   have HK := hid hK
   obtain ⟨m, hml⟩ : ∃ m, m = (keysV h).length := ⟨_, rfl⟩
   have hkm := HKL.out
   rw [← hml] at hkm ⊢
   have HML := hid hml
   have hw1 := hbw1.size
   have HH := hid fun W (hb : Below w1.heap.size w1 W) => HX.out.below (hbw1.trans (hb.mono hw1))
   have HOO := hid fun W (hb : Below w1.heap.size w1 W) => HO.out.below (hbw1.trans (hb.mono hw1))
   clear HKY hK hb1 hbw hml
   go_upto_region 10 with fail
   go_loopw [7] (fun t7 wx => ∃ i : Nat, t7 = .int .i64 (i : Nat) ∧ i ≤ k ∧ Hid (∀ i' : Nat, i' < i → ∀ key ∈ keysV h, rdOk h order key i' = true) ∧ Below w1.heap.size w1 wx) (fun t7 _ => k - (intOf t7).toNat)
   case atStart => exact ⟨0, rfl, Nat.zero_le _, hid fun j hj => absurd hj (Nat.not_lt_zero _), Below.refl _ _⟩
   case round =>
    obtain ⟨i, rfl, hi, HI, hbi⟩ := hrel
    by_cases hik : i < k
    rotate_left
    ·obtain rfl : i = k := by omega
     have hge2 : ¬ (i : Int) < (i : Int) := by omega
     have hvt : v = true := by
      rw [HV2.out, List.all_eq_true]
      intro p hp
      rw [List.all_eq_true]
      exact fun key hkey => HI.out p (List.mem_range.1 hp) key hkey
     have hfin := hbw1.trans (hbi.mono hw1)
     subst hvt
     go_wp2_with fail
     go_ret
     exact ⟨rfl, hfin⟩
    have hik' : (i : Int) < (k : Int) := by omega
    have hpo : i < order.length := by rw [HNO.out]; exact hik
    have hsp : Hid (order[i]? = some (order[i]?.getD 0)) := hid (by rw [List.getElem?_eq_getElem hpo]; rfl)
    have HOC := hid fun W (hb : Below w1.heap.size w1 W) => (HOO.out W hb).row
    rcases HOC.out wr hbi with h0 | ⟨bo, oo, hao, hbol, hoc⟩
    ·rw [h0] at hpo; simp at hpo
    have hoc := hoc i hpo
    have hmU := HPERM.out.mem_iff.1 (List.mem_of_getElem? hsp.out)
    subst hao
    clear hpo
    generalize order[i]?.getD 0 = on at *
    obtain ⟨u1, u2⟩ := upN_mem.1 hmU
    rw [HN.out] at u2
    obtain ⟨q, rfl⟩ : ∃ q : Nat, on = (q : Int) + 1 := ⟨(on - 1).toNat, by omega⟩
    have hqn : q < k := by omega
    have hqn' : (q : Int) < (k : Int) := by omega
    have hq1 : (q : Int) + 1 - 1 = (q : Int) := by omega
    have hq64 : (q : Int) + 1 ≤ 64 := by omega
    have hql : q < h.length := by rw [HN.out]; exact hqn
    have hsq : h[q]? = some (h[q]?.getD default) := by rw [List.getElem?_eq_getElem hql]; rfl
    have hat : atN h ((q : Int) + 1) = some (h[q]?.getD default) := by unfold atN; rw [show ((q : Int) + 1 - 1).toNat = q by omega]; exact hsq
    rcases (HH.out wr hbi).row with h0 | ⟨b, o, ha, hbl, hc⟩
    ·rw [h0] at hql; simp at hql
    have hc := hc q hql
    have HST := hid fun W (hb : Below w1.heap.size w1 W) => (HH.out W hb).sub q hql
    subst ha
    clear hql hsq hmU u1 u2
    generalize h[q]?.getD default = t at *
    have HAT := hid hat
    clear hat
    have d0 : wr.cell? ⟨b, o + q * 7, none⟩ = some (.int .i64 t.num) := hc 0 _ rfl
    have d1 := hc 1 _ rfl
    have d2 := hc 2 _ rfl
    have d3 := hc 3 _ rfl
    have d4 := hc 4 _ rfl
    have d5 := hc 5 _ rfl
    have d6 := hc 6 _ rfl
    clear hc
    have hbz : Below wr.heap.size wr (wr.alloc (.cells (dEnc t).toArray 73 (0, 0))) := Below.alloc1 (Nat.le_refl _) (Below.refl _ _) _
    have hX5 : DBoxH (wr.alloc (.cells (dEnc t).toArray 73 (0, 0))) wr.heap.size t := heap_alloc_new _ _
    have hb5 := hbi.trans (hbz.mono hbi.size)
    have HX5 := hid hX5
    have hpw := hbi.size
    go_upto_region 14 with fail
    have hW5 : wr.alloc (.cells (dEnc t).toArray 73 (0, 0)) = wr.alloc (.cells #[.int .i64 t.num, .int .i64 t.s.s0, .int .i64 t.s.s1, .int .i64 t.s.s2, .slice t.s.ra t.s.rs.length t.s.rc, .slice t.s.sa t.s.ss.length t.s.sc, .slice t.s.wa t.s.ws.length t.s.wc] 73) := rfl
    rw [hW5] at hb5 HX5
    clear hW5 hX5 hbz d0 d1 d2 d3 d4 d5 d6 hoc
    generalize wr.alloc (.cells #[.int .i64 t.num, .int .i64 t.s.s0, .int .i64 t.s.s1, .int .i64 t.s.s2, .slice t.s.ra t.s.rs.length t.s.rc, .slice t.s.sa t.s.ss.length t.s.sc, .slice t.s.wa t.s.ws.length t.s.wc] 73) = W5 at *
    generalize wr.heap.size = P5 at *
    clear hbi
    go_loopw [9] (fun t9 wx => ∃ j : Nat, t9 = .int .i64 (j : Nat) ∧ j ≤ m ∧ Hid (∀ key ∈ (keysV h).take j, rdOk h order key i = true) ∧ Hid (DBoxH wx P5 t) ∧ Below w1.heap.size w1 wx) (fun t9 _ => m - (intOf t9).toNat)
    case atStart => exact ⟨0, rfl, Nat.zero_le _, hid fun key hk => by simp at hk, HX5, hb5⟩
    case round =>
     obtain ⟨j, rfl, hj, HJ, HBX, hbj⟩ := hrel
     clear HX5 hb5
     by_cases hjm : j < m
     rotate_left
     ·obtain rfl : j = m := by omega
      have hge3 : ¬ (j : Int) < (j : Int) := by omega
      have HI2 : Hid (∀ i' : Nat, i' < i + 1 → ∀ key ∈ keysV h, rdOk h order key i' = true) := hid fun i' hi' key hkey => by
       by_cases hii : i' < i
       ·exact HI.out i' hii key hkey
       ·obtain rfl : i' = i := by omega
        exact HJ.out key (by rw [HML.out, List.take_length]; exact hkey)
      go_wp2_with fail
      go_roundw
      case rel => exact ⟨i + 1, by go_num, by omega, HI2, hbj⟩
      case measure => simp [intOf]; omega
     have hjm' : (j : Int) < (m : Int) := by omega
     have hjw : j < (keysV h).length := by rw [← HML.out]; exact hjm
     have hky : Hid ((keysV h)[j]? = some ((keysV h)[j]?.getD 0)) := hid (fl_some hjw)
     have HKC := hid fun W (hb : Below w1.heap.size w1 W) => (HK.out.below hb).row
     rcases HKC.out wr hbj with h0 | ⟨g, qq, hag, hgl, hgc⟩
     ·rw [h0] at hjw; simp at hjw
     have hgc := hgc j hjw
     have HJW := hid hjw
     subst hag
     clear hjw
     generalize hke : (keysV h)[j]?.getD 0 = key at *
     have HKE := hid hke
     clear hke
     have hk64 := HLT.out key (List.mem_of_getElem? hky.out)
     have hB := HBX.out.box
     have g1 := hB.2 1 _ rfl
     have g2 := hB.2 2 _ rfl
     have g3 := hB.2 3 _ rfl
     have g4 := hB.2 4 _ rfl
     have g5 := hB.2 5 _ rfl
     have g6 := hB.2 6 _ rfl
     have hp5 := hB.1
     have hszj := hbj.size
     clear hB
     have HRD := fun W (hb : Below wr.heap.size wr W) => refReads_any t.s key W (HST.out W (hbj.trans (hb.mono hszj))) hk64
     obtain ⟨br, hbr⟩ : ∃ br, t.s.reads key = br := ⟨_, rfl⟩
     rw [hbr] at HRD
     have HBR := hid hbr
     clear hbr
     have HRK := hid (rdOk_eq (k := key) hsp.out HAT.out)
     have goOn : (br = false ∨ lastV h key (order.take i) = versionV h key t.s.s2) → Hid (∀ key' ∈ (keysV h).take (j + 1), rdOk h order key' i = true) := fun hg => hid fun key' hk' => by
      rw [List.take_add_one, hky.out] at hk'
      rcases List.mem_append.1 hk' with h1 | h1
      ·exact HJ.out key' h1
      ·have : key' = key := by simpa using h1
       subst this
       rw [HRK.out, HBR.out]
       rcases hg with rfl | h2
       ·rfl
       ·rw [h2]; simp
     cases br
     ·have HG := goOn (.inl rfl)
      clear goOn
      go_upto_region 16 with fail
      (refine wp_region_ext (by kernel_rfl) (by kernel_rfl) ?_; (repeat (go_big_quiet_step (first | (go_at_call 58; with_reducible exact Calls.ext_of (HRD _ (Ext.b _)))))); refine wpQuiet_nil ?_; rintro w2 ⟨x2, hx2⟩; have hb2 := x2.b; rw [← hx2] at hb2; clear hx2 x2; obtain ⟨hc2, hf2⟩ := bcell hb2; (try simp only [World.heap_drewN, World.cell?_drewN, World.frozen?_drewN] at hc2 hf2); have hz2 := hb2.size; (try simp at hz2); (try have hy2_0 : w.heap.size < w2.heap.size := by omega); (try have hy2_1 : w.heap.size + 1 < w2.heap.size := by omega); (try have hx2_0 : w.heap.size ≤ w2.heap.size := by omega); (try have hx2_1 : w.heap.size + 1 ≤ w2.heap.size := by omega))
      go_wp2_with fail
      have hb2 := hbj.trans (hb2.mono hszj)
      go_roundw
      case rel => exact ⟨j + 1, by go_num, by omega, HG, hid (HBX.out.below (by assumption)), hb2⟩
      case measure => simp [intOf]; omega
     ·go_upto_region 16 with fail
      (refine wp_region_ext (by kernel_rfl) (by kernel_rfl) ?_; (repeat (go_big_quiet_step (first | (go_at_call 58; with_reducible exact Calls.ext_of (HRD _ (Ext.b _)))))); refine wpQuiet_nil ?_; rintro w2 ⟨x2, hx2⟩; have hb2 := x2.b; rw [← hx2] at hb2; clear hx2 x2; obtain ⟨hc2, hf2⟩ := bcell hb2; (try simp only [World.heap_drewN, World.cell?_drewN, World.frozen?_drewN] at hc2 hf2); have hz2 := hb2.size; (try simp at hz2); (try have hy2_0 : w.heap.size < w2.heap.size := by omega); (try have hy2_1 : w.heap.size + 1 < w2.heap.size := by omega); (try have hx2_0 : w.heap.size ≤ w2.heap.size := by omega); (try have hx2_1 : w.heap.size + 1 ≤ w2.heap.size := by omega))
      have HBX2 := hid (HBX.out.below hb2)
      have hbj2 := hbj.trans (hb2.mono hszj)
      have hszj2 := hbj2.size
      clear hb2 hc2 hf2 hz2 g1 g2 g3 g4 g5 g6 hp5 hgc hgl HBX hbj hszj HRD
      go_upto_region 19 with fail
      go_loopw [10, 11] (fun t10 t11 wy => ∃ p : Nat, t11 = .int .i64 (p : Nat) ∧ t10 = .int .i64 (lastV h key (order.take p)) ∧ p ≤ i ∧ Hid (DBoxH wy P5 t) ∧ Below w1.heap.size w1 wy) (fun _ t11 _ => i - (intOf t11).toNat)
      case atStart => exact ⟨0, rfl, rfl, Nat.zero_le _, HBX2, hbj2⟩
      case round =>
       obtain ⟨p, rfl, rfl, hp, HBY, hby⟩ := hrel
       clear HBX2 hbj2 hszj2
       have hszy := hby.size
       have hjw := HJW.out
       rcases HKC.out wr hby with h0 | ⟨g', qq', hag', hgl, hgc⟩
       ·rw [h0] at hjw; simp at hjw
       cases hag'
       have hgc := hgc j hjw
       rw [HKE.out] at hgc
       clear hjw
       by_cases hpi : p < i
       ·have hpi' : (p : Int) < (i : Int) := by omega
        have hpk : (p : Int) < (k : Int) := by omega
        have hpo : p < order.length := by rw [HNO.out]; omega
        have hsp2 : Hid (order[p]? = some (order[p]?.getD 0)) := hid (by rw [List.getElem?_eq_getElem hpo]; rfl)
        rcases HOC.out wr hby with h0 | ⟨bo', oo', hao', hbol, hoc⟩
        ·rw [h0] at hpo; simp at hpo
        cases hao'
        have hoc := hoc p hpo
        have hmU := HPERM.out.mem_iff.1 (List.mem_of_getElem? hsp2.out)
        clear hpo
        generalize order[p]?.getD 0 = on at *
        obtain ⟨u1, u2⟩ := upN_mem.1 hmU
        rw [HN.out] at u2
        obtain ⟨r, rfl⟩ : ∃ r : Nat, on = (r : Int) + 1 := ⟨(on - 1).toNat, by omega⟩
        have hrn : r < k := by omega
        have hrn' : (r : Int) < (k : Int) := by omega
        have hr1 : (r : Int) + 1 - 1 = (r : Int) := by omega
        have hr64 : (r : Int) + 1 ≤ 64 := by omega
        have hrl : r < h.length := by rw [HN.out]; exact hrn
        have hsr : h[r]? = some (h[r]?.getD default) := by rw [List.getElem?_eq_getElem hrl]; rfl
        have hat : atN h ((r : Int) + 1) = some (h[r]?.getD default) := by unfold atN; rw [show ((r : Int) + 1 - 1).toNat = r by omega]; exact hsr
        rcases (HH.out wr hby).row with h0 | ⟨b', o', ha, hbl', hc⟩
        ·rw [h0] at hrl; simp at hrl
        cases ha
        have hc := hc r hrl
        have HSY := hid fun W (hb : Below w1.heap.size w1 W) => (HH.out W hb).sub r hrl
        clear hrl hsr hmU u1 u2
        generalize h[r]?.getD default = y at *
        have HLS := hid (last_snoc (k := key) hsp2.out hat)
        clear hat
        have d0 : wr.cell? ⟨b, o + r * 7, none⟩ = some (.int .i64 y.num) := hc 0 _ rfl
        have d1 := hc 1 _ rfl
        have d2 := hc 2 _ rfl
        have d3 := hc 3 _ rfl
        have d4 := hc 4 _ rfl
        have d5 := hc 5 _ rfl
        have d6 := hc 6 _ rfl
        clear hc
        have HWR := fun W (hb : Below wr.heap.size wr W) => refWrites_any y.s key W (HSY.out W (hby.trans (hb.mono hszy)))
        obtain ⟨bw, hbw⟩ : ∃ bw, y.s.writes key = bw := ⟨_, rfl⟩
        rw [hbw] at HWR
        have HBW := hid hbw
        clear hbw
        have nxt : Hid (lastV h key (order.take (p + 1)) = if bw = true then (r : Int) + 1 else lastV h key (order.take p)) := hid (by rw [HLS.out, HBW.out])
        obtain ⟨la, hla⟩ : ∃ la, lastV h key (order.take p) = la := ⟨_, rfl⟩
        rw [hla] at nxt ⊢
        clear hla
        cases bw
        ·have HNX : Hid (la = lastV h key (order.take (p + 1))) := hid (by rw [nxt.out]; rfl)
         clear nxt
         go_upto_region 21 with fail
         (refine wp_region_ext (by kernel_rfl) (by kernel_rfl) ?_; (repeat (go_big_quiet_step (first | (go_at_call 38; with_reducible exact Calls.ext_of (HWR _ (Ext.b _)))))); refine wpQuiet_nil ?_; rintro w3 ⟨x3, hx3⟩; have hb3 := x3.b; rw [← hx3] at hb3; clear hx3 x3; obtain ⟨hc3, hf3⟩ := bcell hb3; (try simp only [World.heap_drewN, World.cell?_drewN, World.frozen?_drewN] at hc3 hf3); have hz3 := hb3.size; (try simp at hz3); (try have hy3_0 : w.heap.size < w3.heap.size := by omega); (try have hy3_1 : w.heap.size + 1 < w3.heap.size := by omega); (try have hx3_0 : w.heap.size ≤ w3.heap.size := by omega); (try have hx3_1 : w.heap.size + 1 ≤ w3.heap.size := by omega))
         go_wp2_with fail
         have hb4 := hby.trans (hb3.mono hszy)
         go_roundw
         case rel => exact ⟨p + 1, by go_num, by rw [← HNX.out], by omega, hid (HBY.out.below hb3), hb4⟩
         case measure => simp [intOf]; omega
        ·have HNX : Hid ((r : Int) + 1 = lastV h key (order.take (p + 1))) := hid (by rw [nxt.out]; rfl)
         clear nxt
         go_upto_region 21 with fail
         (refine wp_region_ext (by kernel_rfl) (by kernel_rfl) ?_; (repeat (go_big_quiet_step (first | (go_at_call 38; with_reducible exact Calls.ext_of (HWR _ (Ext.b _)))))); refine wpQuiet_nil ?_; rintro w3 ⟨x3, hx3⟩; have hb3 := x3.b; rw [← hx3] at hb3; clear hx3 x3; obtain ⟨hc3, hf3⟩ := bcell hb3; (try simp only [World.heap_drewN, World.cell?_drewN, World.frozen?_drewN] at hc3 hf3); have hz3 := hb3.size; (try simp at hz3); (try have hy3_0 : w.heap.size < w3.heap.size := by omega); (try have hy3_1 : w.heap.size + 1 < w3.heap.size := by omega); (try have hx3_0 : w.heap.size ≤ w3.heap.size := by omega); (try have hx3_1 : w.heap.size + 1 ≤ w3.heap.size := by omega))
         have hoc3 := (hb3.cell (p := ⟨bo, oo + p, none⟩) hbol).trans hoc
         have hbol3 := Nat.lt_of_lt_of_le hbol hb3.size
         clear hoc hbol
         go_wp2_with fail
         have hb4 := hby.trans (hb3.mono hszy)
         go_roundw
         case rel => exact ⟨p + 1, by go_num, by rw [← HNX.out], by omega, hid (HBY.out.below hb3), hb4⟩
         case measure => simp [intOf]; omega
       ·obtain rfl : p = i := by omega
        have hge4 : ¬ (p : Int) < (p : Int) := by omega
        have hB := HBY.out.box
        have g3 : wr.cell? ⟨P5, 3, none⟩ = some (.int .i64 t.s.s2) := hB.2 3 _ rfl
        have hp5 := hB.1
        clear hB
        have HVE := fun W (hb : Below wr.heap.size wr W) => refVersion_any (some ⟨b, o, none⟩) c k h key t.s.s2 W HN.out (HH.out W (hby.trans (hb.mono hszy)))
        obtain ⟨vv, hvv⟩ : ∃ vv, versionV h key t.s.s2 = vv := ⟨_, rfl⟩
        obtain ⟨la, hla⟩ : ∃ la, lastV h key (order.take p) = la := ⟨_, rfl⟩
        rw [hvv] at HVE goOn
        rw [hla] at goOn ⊢
        by_cases hlv : la = vv
        ·have hneb : (la != vv) = false := by simpa using hlv
         have HG := goOn (.inr hlv)
         clear goOn hlv hvv hla
         go_upto_region 23 with fail
         (refine wp_region_ext (by kernel_rfl) (by kernel_rfl) ?_; (repeat (go_big_quiet_step (first | (go_at_call 66; with_reducible exact Calls.ext_of (HVE _ (Ext.b _)))))); refine wpQuiet_nil ?_; rintro w3 ⟨x3, hx3⟩; have hb3 := x3.b; rw [← hx3] at hb3; clear hx3 x3; obtain ⟨hc3, hf3⟩ := bcell hb3; (try simp only [World.heap_drewN, World.cell?_drewN, World.frozen?_drewN] at hc3 hf3); have hz3 := hb3.size; (try simp at hz3); (try have hy3_0 : w.heap.size < w3.heap.size := by omega); (try have hy3_1 : w.heap.size + 1 < w3.heap.size := by omega); (try have hx3_0 : w.heap.size ≤ w3.heap.size := by omega); (try have hx3_1 : w.heap.size + 1 ≤ w3.heap.size := by omega))
         go_wp2_with fail
         have hb4 := hby.trans (hb3.mono hszy)
         go_roundw
         case rel => exact ⟨j + 1, by go_num, by omega, HG, hid (HBY.out.below hb3), hb4⟩
         case measure => simp [intOf]; omega
        ·have hneb : (la != vv) = true := by simpa using hlv
         have hvf : v = false := by
          rw [HV2.out, List.all_eq_false]
          refine ⟨p, List.mem_range.2 hik, ?_⟩
          rw [Bool.not_eq_true, List.all_eq_false]
          refine ⟨key, List.mem_of_getElem? hky.out, ?_⟩
          rw [HRK.out, HBR.out, hla, hvv]
          simpa using hlv
         subst hvf
         clear goOn hlv hvv hla HV2
         go_upto_region 23 with fail
         (refine wp_region_ext (by kernel_rfl) (by kernel_rfl) ?_; (repeat (go_big_quiet_step (first | (go_at_call 66; with_reducible exact Calls.ext_of (HVE _ (Ext.b _)))))); refine wpQuiet_nil ?_; rintro w3 ⟨x3, hx3⟩; have hb3 := x3.b; rw [← hx3] at hb3; clear hx3 x3; obtain ⟨hc3, hf3⟩ := bcell hb3; (try simp only [World.heap_drewN, World.cell?_drewN, World.frozen?_drewN] at hc3 hf3); have hz3 := hb3.size; (try simp at hz3); (try have hy3_0 : w.heap.size < w3.heap.size := by omega); (try have hy3_1 : w.heap.size + 1 < w3.heap.size := by omega); (try have hx3_0 : w.heap.size ≤ w3.heap.size := by omega); (try have hx3_1 : w.heap.size + 1 ≤ w3.heap.size := by omega))
         go_wp2_with fail
         have hb4 := hby.trans (hb3.mono hszy)
         have hfin := hbw1.trans (hb4.mono hw1)
         go_ret
         exact ⟨rfl, hfin⟩
end Go.Proofs.YtekmadgacepdfaaGreat.T
namespace Go.Proofs.YtekmadgacepdfaaGreat.T
set_option linter.unusedVariables false
open Go.RowKit Fl Go.Shelf
set_option linter.unusedSimpArgs false

theorem NAt.take {w : World} {a : Option Addr} {l : List Int} (h : NAt w a l) (n : Nat) : NAt w a (l.take n) := by
 refine ⟨?_, by have := h.len; rw [List.length_take]; omega⟩
 rcases h.row with h0 | ⟨b, o, h1, h2, h3⟩
 ·exact .inl (by rw [h0]; simp)
 ·refine .inr ⟨b, o, h1, h2, fun i hi => ?_⟩
  rw [List.length_take] at hi
  rw [List.getElem?_take, if_pos (by omega)]
  exact h3 i (by omega)
set_option maxHeartbeats 2000000 in
set_option maxRecDepth 100000 in
theorem serialReads_walk (a : Option Addr) (c0 : Nat) (h0 : List DoneV) (ao : Option Addr) (co : Nat) (order0 : List Int) (w : World) (hh : HAt w a h0) (hcap : h0.length ≤ c0) (ho : NAt w ao order0) (hcao : order0.length ≤ co) :
  Calls Tryz.prog 8 #[.slice a h0.length c0, .slice ao order0.length co] w (Ret (.bool true) w) := by
 have HF := hid fun W => few_any a c0 h0.length W hcap hh.len
 have HH := hid hh
 have HO := hid ho
 obtain ⟨n0, hn0⟩ : ∃ n0, n0 = h0.length := ⟨_, rfl⟩
 rw [← hn0] at HF hcap ⊢
 have HN0 := hid hn0
 have hm2 := ho.len
 unfold maxLen at hm2
 obtain ⟨no0, hno0⟩ : ∃ n0, n0 = order0.length := ⟨_, rfl⟩
 rw [← hno0] at hcao hm2 ⊢
 have HNO0 := hid hno0
 clear hh hn0 ho hno0
 go_enter Tryz.func8, Tryz.ntmps8
 go_upto_region 3 with (go_at_call 25; (with_reducible refine (alive12_any _).mono ?_); rintro e w1 ⟨rfl, hb1⟩; obtain ⟨hc1, hf1⟩ := bcell hb1; (try simp only [World.heap_drewN, World.cell?_drewN, World.frozen?_drewN] at hc1 hf1); have hz1 := hb1.size; (try simp at hz1); (try have hy1_0 : w.heap.size < w1.heap.size := by omega); (try have hy1_1 : w.heap.size + 1 < w1.heap.size := by omega); (try have hx1_0 : w.heap.size ≤ w1.heap.size := by omega); (try have hx1_1 : w.heap.size + 1 ≤ w1.heap.size := by omega))
 go_wp2_with fail
 refine (HF.out w1).mono ?_
 rintro e w2 ⟨a', rfl, ha', rfl⟩
 obtain ⟨hh1, hl1⟩ := few_hat (HH.out.below hb1) (by rcases ha' with h | h; exact .inl h; exact .inr (by rw [← HN0.out]; exact h))
 rw [← HN0.out] at hl1
 have hcap1 : min n0 65 ≤ c0 := by omega
 have hn65 : min n0 65 ≤ 65 := by omega
 have HO1 := hid (HO.out.below hb1)
 generalize h0.take 65 = h at *
 generalize min n0 65 = n at *
 have HX := hid hh1
 have HN := hid hl1
 have hsz1 := hb1.size
 clear hh1 hl1 HF HH HN0 hcap ha' hc1 hf1 hz1 HO
 have hcap : n ≤ c0 := hcap1
 obtain ⟨rv, hrv⟩ : ∃ rv, rightV h = rv := ⟨_, rfl⟩
 have HRV := hid hrv
 have HRR := hid fun W (hb : Below w1.heap.size w1 W) => refRight_any a' c0 n h rv W HN.out (HX.out.below hb) ((right_ref h).trans hrv)
 clear hrv
 have key : ∀ (ob : Option Addr) (no : Nat) (order : List Int), Hid (order.length = no) → no ≤ 70 → Hid (NAt w1 ob order) → Hid ((∀ v, readsV h order = v → ∀ W, Below w1.heap.size w1 W → Calls Tryz.prog 35 #[.slice a' n c0, .slice ob no co] W (Ret (.bool v) W)) ∧ (∀ v, rv = true → refReadsV h order = v → ∀ W, Below w1.heap.size w1 W → Calls Tryz.prog 36 #[.slice a' n c0, .slice ob no co] W (Ret (.bool v) W))) := fun ob no order hl h70 hno => hid ⟨fun v hv W hb => reads_any a' ob c0 co n no h order v W HN.out hcap (HX.out.below hb) hl.out (by omega) (hno.out.below hb) hv, fun v hr hv W hb => refReads_any12 a' ob c0 co n no h order v W HN.out (HX.out.below hb) hl.out (hno.out.below hb) (by rw [HRV.out]; exact hr) hv⟩
 have fin : ∀ (order : List Int), Hid (readsV h order = (rv && refReadsV h order)) := fun order => hid (by rw [reads_ref, HRV.out])
 by_cases h70 : 70 < no0
 ·have h1 : (70 : Int) < (no0 : Int) := by omega
  have h2 : 70 ≤ co := by omega
  have h3 : (70 : Int) ≤ (co : Int) := by omega
  have HK := key ao 70 (order0.take 70) (hid (by rw [List.length_take, ← HNO0.out]; omega)) (by omega) (hid (HO1.out.take 70))
  have HFI := fin (order0.take 70)
  clear key fin HO1 h70
  generalize order0.take 70 = order at *
  cases rv
  ·have HS := HK.out.1 false (by rw [HFI.out]; rfl)
   clear HK HFI
   go_wp2_with (first | (go_at_call 35; (with_reducible refine (HS _ (by exact below_auto)).mono ?_); rintro e w2 ⟨rfl, hb2⟩; obtain ⟨hc2, hf2⟩ := bcell hb2; (try simp only [World.heap_drewN, World.cell?_drewN, World.frozen?_drewN] at hc2 hf2); have hz2 := hb2.size; (try simp at hz2); (try have hy2_0 : w.heap.size < w2.heap.size := by omega); (try have hy2_1 : w.heap.size + 1 < w2.heap.size := by omega); (try have hx2_0 : w.heap.size ≤ w2.heap.size := by omega); (try have hx2_1 : w.heap.size + 1 ≤ w2.heap.size := by omega)) | (go_at_call 27; (with_reducible refine (HRR.out _ (by exact below_auto)).mono ?_); rintro e w3 ⟨rfl, hb3⟩; obtain ⟨hc3, hf3⟩ := bcell hb3; (try simp only [World.heap_drewN, World.cell?_drewN, World.frozen?_drewN] at hc3 hf3); have hz3 := hb3.size; (try simp at hz3); (try have hy3_0 : w.heap.size < w3.heap.size := by omega); (try have hy3_1 : w.heap.size + 1 < w3.heap.size := by omega); (try have hx3_0 : w.heap.size ≤ w3.heap.size := by omega); (try have hx3_1 : w.heap.size + 1 ≤ w3.heap.size := by omega)))
   all_goals
    go_ret
    exact ⟨rfl, by exact below_auto⟩
  ·obtain ⟨v, hv⟩ : ∃ v, refReadsV h order = v := ⟨_, rfl⟩
   have HS := HK.out.1 v (by rw [HFI.out, hv]; rfl)
   have HS2 := HK.out.2 v rfl hv
   clear HK HFI hv
   cases v
   all_goals
    go_wp2_with (first | (go_at_call 35; (with_reducible refine (HS _ (by exact below_auto)).mono ?_); rintro e w2 ⟨rfl, hb2⟩; obtain ⟨hc2, hf2⟩ := bcell hb2; (try simp only [World.heap_drewN, World.cell?_drewN, World.frozen?_drewN] at hc2 hf2); have hz2 := hb2.size; (try simp at hz2); (try have hy2_0 : w.heap.size < w2.heap.size := by omega); (try have hy2_1 : w.heap.size + 1 < w2.heap.size := by omega); (try have hx2_0 : w.heap.size ≤ w2.heap.size := by omega); (try have hx2_1 : w.heap.size + 1 ≤ w2.heap.size := by omega)) | (go_at_call 27; (with_reducible refine (HRR.out _ (by exact below_auto)).mono ?_); rintro e w3 ⟨rfl, hb3⟩; obtain ⟨hc3, hf3⟩ := bcell hb3; (try simp only [World.heap_drewN, World.cell?_drewN, World.frozen?_drewN] at hc3 hf3); have hz3 := hb3.size; (try simp at hz3); (try have hy3_0 : w.heap.size < w3.heap.size := by omega); (try have hy3_1 : w.heap.size + 1 < w3.heap.size := by omega); (try have hx3_0 : w.heap.size ≤ w3.heap.size := by omega); (try have hx3_1 : w.heap.size + 1 ≤ w3.heap.size := by omega)) | (go_at_call 36; (with_reducible refine (HS2 _ (by exact below_auto)).mono ?_); rintro e w4 ⟨rfl, hb4⟩; obtain ⟨hc4, hf4⟩ := bcell hb4; (try simp only [World.heap_drewN, World.cell?_drewN, World.frozen?_drewN] at hc4 hf4); have hz4 := hb4.size; (try simp at hz4); (try have hy4_0 : w.heap.size < w4.heap.size := by omega); (try have hy4_1 : w.heap.size + 1 < w4.heap.size := by omega); (try have hx4_0 : w.heap.size ≤ w4.heap.size := by omega); (try have hx4_1 : w.heap.size + 1 ≤ w4.heap.size := by omega)))
    all_goals
     go_ret
     exact ⟨rfl, by exact below_auto⟩
 ·have h1 : ¬ (70 : Int) < (no0 : Int) := by omega
  have HK := key ao no0 order0 (hid HNO0.out.symm) (by omega) HO1
  have HFI := fin order0
  clear key fin HO1 h70
  cases rv
  ·have HS := HK.out.1 false (by rw [HFI.out]; rfl)
   clear HK HFI
   go_wp2_with (first | (go_at_call 35; (with_reducible refine (HS _ (by exact below_auto)).mono ?_); rintro e w2 ⟨rfl, hb2⟩; obtain ⟨hc2, hf2⟩ := bcell hb2; (try simp only [World.heap_drewN, World.cell?_drewN, World.frozen?_drewN] at hc2 hf2); have hz2 := hb2.size; (try simp at hz2); (try have hy2_0 : w.heap.size < w2.heap.size := by omega); (try have hy2_1 : w.heap.size + 1 < w2.heap.size := by omega); (try have hx2_0 : w.heap.size ≤ w2.heap.size := by omega); (try have hx2_1 : w.heap.size + 1 ≤ w2.heap.size := by omega)) | (go_at_call 27; (with_reducible refine (HRR.out _ (by exact below_auto)).mono ?_); rintro e w3 ⟨rfl, hb3⟩; obtain ⟨hc3, hf3⟩ := bcell hb3; (try simp only [World.heap_drewN, World.cell?_drewN, World.frozen?_drewN] at hc3 hf3); have hz3 := hb3.size; (try simp at hz3); (try have hy3_0 : w.heap.size < w3.heap.size := by omega); (try have hy3_1 : w.heap.size + 1 < w3.heap.size := by omega); (try have hx3_0 : w.heap.size ≤ w3.heap.size := by omega); (try have hx3_1 : w.heap.size + 1 ≤ w3.heap.size := by omega)))
   all_goals
    go_ret
    exact ⟨rfl, by exact below_auto⟩
  ·obtain ⟨v, hv⟩ : ∃ v, refReadsV h order0 = v := ⟨_, rfl⟩
   have HS := HK.out.1 v (by rw [HFI.out, hv]; rfl)
   have HS2 := HK.out.2 v rfl hv
   clear HK HFI hv
   cases v
   all_goals
    go_wp2_with (first | (go_at_call 35; (with_reducible refine (HS _ (by exact below_auto)).mono ?_); rintro e w2 ⟨rfl, hb2⟩; obtain ⟨hc2, hf2⟩ := bcell hb2; (try simp only [World.heap_drewN, World.cell?_drewN, World.frozen?_drewN] at hc2 hf2); have hz2 := hb2.size; (try simp at hz2); (try have hy2_0 : w.heap.size < w2.heap.size := by omega); (try have hy2_1 : w.heap.size + 1 < w2.heap.size := by omega); (try have hx2_0 : w.heap.size ≤ w2.heap.size := by omega); (try have hx2_1 : w.heap.size + 1 ≤ w2.heap.size := by omega)) | (go_at_call 27; (with_reducible refine (HRR.out _ (by exact below_auto)).mono ?_); rintro e w3 ⟨rfl, hb3⟩; obtain ⟨hc3, hf3⟩ := bcell hb3; (try simp only [World.heap_drewN, World.cell?_drewN, World.frozen?_drewN] at hc3 hf3); have hz3 := hb3.size; (try simp at hz3); (try have hy3_0 : w.heap.size < w3.heap.size := by omega); (try have hy3_1 : w.heap.size + 1 < w3.heap.size := by omega); (try have hx3_0 : w.heap.size ≤ w3.heap.size := by omega); (try have hx3_1 : w.heap.size + 1 ≤ w3.heap.size := by omega)) | (go_at_call 36; (with_reducible refine (HS2 _ (by exact below_auto)).mono ?_); rintro e w4 ⟨rfl, hb4⟩; obtain ⟨hc4, hf4⟩ := bcell hb4; (try simp only [World.heap_drewN, World.cell?_drewN, World.frozen?_drewN] at hc4 hf4); have hz4 := hb4.size; (try simp at hz4); (try have hy4_0 : w.heap.size < w4.heap.size := by omega); (try have hy4_1 : w.heap.size + 1 < w4.heap.size := by omega); (try have hx4_0 : w.heap.size ≤ w4.heap.size := by omega); (try have hx4_1 : w.heap.size + 1 ≤ w4.heap.size := by omega)))
    all_goals
     go_ret
     exact ⟨rfl, by exact below_auto⟩
end Go.Proofs.YtekmadgacepdfaaGreat.T
