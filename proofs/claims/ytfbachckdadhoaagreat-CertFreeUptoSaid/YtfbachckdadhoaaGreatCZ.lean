/- The walk of CertFree. -/
import Derived.Test.YtfbachckdadhoaaGreatCX
import Derived.Test.YtfbachckdadhoaaGreatCW
import Derived.Test.YtfbachckdadhoaaGreatDR
namespace Go.Proofs.YtfbachckdadhoaaGreat.C
set_option linter.unusedVariables false
open Go.RowKit Fl
set_option linter.unusedSimpArgs false

def freeB (D : List RecV) (x : SubV) (j : Nat) : Bool := (D.take j).all fun d => decide (d.num ≤ x.s2) || apartV d.s x
theorem freeB_zero (D : List RecV) (x : SubV) : freeB D x 0 = true := rfl
theorem freeB_snoc {D : List RecV} (x : SubV) {j : Nat} {d : RecV} (h : D[j]? = some d) : freeB D x (j + 1) = (freeB D x j && (decide (d.num ≤ x.s2) || apartV d.s x)) := by
 unfold freeB
 rw [List.take_add_one, h, List.all_append]
 simp
theorem freeB_all {D : List RecV} {x : SubV} {n : Nat} (hn : D.length = n) (h : freeB D x n = true) : ∀ r ∈ D.map RecV.n, r.num ≤ (SubV.n x).s2 ∨ apartV r.s (SubV.n x) = true := by
 intro r hr
 obtain ⟨d, hd, rfl⟩ := List.mem_map.1 hr
 unfold freeB at h
 rw [List.take_of_length_le (by omega), List.all_eq_true] at h
 have := h d hd
 rw [Bool.or_eq_true, decide_eq_true_eq] at this
 exact this
theorem snapV_nn (x : SubV) (n : Int) : (snapV x n).ra = x.ra := by unfold snapV; split <;> rfl
theorem chk_of_code {c : CL} {x : SubV} {k : Int} (h : codeD c x k = 0) : k = 0 := by
 unfold codeD at h
 by_cases hk : k ≠ 0
 ·rw [if_pos hk] at h; exact h
 ·exact Classical.byContradiction hk
theorem Inv.cnt {c : CL} {D : List RecV} {m : Nat} (h : Inv (CL.n c) (D.map RecV.n) m) : c.count = (D.length : Int) := by
 have := h.count
 rw [List.length_map] at this
 exact this
set_option maxHeartbeats 8000000 in
set_option maxRecDepth 100000 in
theorem certFree_walk (keep old : Int) (a : Option Addr) (cp : Nat) (xs : List SubV) (w : World) (_hk : -9223372036854775808 ≤ keep ∧ keep ≤ 9223372036854775807) (ho : -9223372036854775808 ≤ old ∧ old ≤ 9223372036854775807) (hx : SqAt w a xs) (hlen : xs.length ≤ 1048576) (_hc : xs.length ≤ cp) :
  Calls Tryz.prog 3 #[.int .i64 keep, .int .i64 old, .slice a xs.length cp] w (Ret (.bool true) w) := by
 have HX := hid hx
 obtain ⟨n, hn⟩ : ∃ n, n = xs.length := ⟨_, rfl⟩
 have HN := hid hn
 rw [← hn] at hlen ⊢
 clear hx hn
 have HNew := hid (new_any keep old w ho)
 clear ho
 go_enter Tryz.func3, Tryz.ntmps3
 go_wp2_with fail
 refine HNew.out.mono ?_
 rintro e w1 ⟨T, p1, p2, p3, p4, ow, rfl, hC1, hb1⟩
 clear HNew
 go_wp2_with fail
 refine (alive11_any w1).mono ?_
 rintro e w2 ⟨rfl, hb2⟩
 have HC2 := hid (hC1.below hb2)
 have hb02 := hb1.trans (hb2.mono hb1.size)
 clear hC1 hb1 hb2
 have HD2 := hid (DRow.lit HC2.out)
 have HC2' := hid (HC2.out.below (w' := w2.alloc (.cells #[] 37)) (by exact below_auto))
 have hz2 := hb02.size
 have hb02' : Below w.heap.size w (w2.alloc (.cells #[] 37)) := by exact below_auto
 have HI0 := hid (Inv.new (min (max keep 1) 32) old (by omega) p1 p2 p3 p4)
 go_upto_region 6 with fail
 go_loopw [8, 28] (fun t8 t28 wr => ∃ (k n8 c8 : Nat) (a8 : Option Addr) (cc : CL) (ow : Nat → Nat) (D : List RecV) (m : Nat), t8 = .slice a8 n8 c8 ∧ t28 = .int .i64 (k : Nat) ∧ k ≤ n ∧ n8 ≤ k ∧ Hid (DRow w.heap.size ow a8 n8 c8 D wr) ∧ Hid (∀ d ∈ D, d.s.At w) ∧ Hid (CAt w.heap.size T cc ow wr) ∧ Hid (Inv (CL.n cc) (D.map RecV.n) m) ∧ Below w.heap.size w wr) (fun _ t28 _ => n - (intOf t28).toNat)
 case atStart => exact ⟨0, 0, 0, _, _, ow, [], 0, rfl, rfl, Nat.zero_le _, Nat.le_refl _, HD2, hid (fun d hd => by cases hd), HC2', HI0, hb02'⟩
 case round =>
  obtain ⟨k, n8, c8, a8, cc, ow, D, m, rfl, rfl, hk, hdl, HD, HDA, HC, HI, hbw⟩ := hrel
  clear HC2 HI0 hb02 HD2 HC2' hb02'
  by_cases hlt : k < n
  ·have hlt' : (k : Int) < (n : Int) := by omega
   obtain ⟨g, o, rfl, hg, hxa, c0, c1, c2, c3, c4, c5⟩ := (HX.out.below hbw).get (k := k) (by rw [← HN.out]; exact hlt)
   have HA := hid (HX.out.sub k (by rw [← HN.out]; exact hlt))
   generalize xs[k]?.getD noSub = x at *
   clear hxa
   go_upto_region 8 with fail
   generalize hW3 : World.alloc wr _ = w3
   have hb3 : Below wr.heap.size wr w3 := by rw [← hW3]; exact below_auto
   have q0 : w3.heap[wr.heap.size]? = some (.cells #[.int .i64 x.s0, .int .i64 x.s1, .int .i64 x.s2, .slice x.ra x.rs.length x.rc, .slice x.sa x.ss.length x.sc, .slice x.wa x.ws.length x.wc] 32 (0, 0)) := by rw [← hW3]; exact heap_alloc_new wr _
   obtain ⟨S, hS⟩ : ∃ S, S = wr.heap.size := ⟨_, rfl⟩
   have zS : ow S = 0 := Classical.byContradiction fun h0 => by have := (HC.out.low S h0).2; omega
   have hC3 := HC.out.below hb3
   have hD3 := HD.out.below hb3
   have hwS : w.heap.size ≤ S := by rw [hS]; exact hbw.size
   have hDS : ∀ g, (Value.slice a8 n8 c8).ownBlock = some g → g ≠ S := fun g e => by have := (HD.out.own.lt g e).2; omega
   have hb03 := hbw.trans (hb3.mono hbw.size)
   rw [← hS] at q0 ⊢
   clear c0 c1 c2 c3 c4 c5 hW3 hb3 hS
   obtain ⟨b0, b1, b2, b3, b4, b5⟩ := row6 q0
   have f0 : ∀ i, w3.frozen? ⟨S, i, none⟩ = false := fun i => by simp [World.frozen?, q0]
   have hlS : S < w3.heap.size := (Array.getElem?_eq_some_iff.1 q0).1
   obtain ⟨cnt, hcnt⟩ : ∃ v, v = cc.count := ⟨_, rfl⟩
   have hcD : cnt = (D.length : Int) := hcnt.trans HI.out.cnt
   have hDn := HD.out.len
   have hcb : 0 ≤ cnt ∧ cnt ≤ 1099511627776 := by omega
   obtain ⟨y, hy⟩ : ∃ y, snapV x cnt = y := ⟨_, rfl⟩
   have HYA := hid (show y.At w from by rw [← hy]; exact snapV_at HA.out cnt)
   have HCt := hid fun W (hb : Below w3.heap.size w3 W) => (show Calls Tryz.prog 14 #[.pointer (some ⟨T, 0, none⟩)] W (Ret (.int .i64 cnt) W) from by have := count_any (hC3.below hb); rw [← hcnt] at this; exact this)
   have HSn := hid fun W => snap11_any x y cnt W hcb hy
   have HC3 := hid hC3; have HD3 := hid hD3
   have HCD := hid hcD; have HDN := hid hDn; have HCN := hid hcnt; have HY0 := hid hy
   clear hC3 hD3 hcD hDn hcnt hy
   (refine wp_region_ext_tail 4 (by kernel_rfl) (by kernel_rfl) (by kernel_rfl) ?_; simp only [List.take_succ_cons, List.take_zero, List.drop_succ_cons, List.drop_zero]; (repeat (go_big_quiet_step (first | (go_at_call 14; with_reducible exact Calls.ext_of (HCt.out _ (Ext.b _))) | (go_at_call 13; with_reducible exact Calls.ext_of (HSn.out _))))); refine mX ?_; intro w4 hb4 hc4 hf4 hz4; intros)
   have r0 := (hb4.block _ hlS).trans q0
   have hC4 := HC3.out.below hb4
   have hD4 := HD3.out.below hb4
   have hb04 := hb03.trans (hb4.mono hb03.size)
   clear b0 b1 b2 b3 b4 b5 f0 q0 hb4 hc4 hf4 hz4 HCt HSn HC3 HD3 hb03 hlS
   have f0 : ∀ i, w4.frozen? ⟨S, i, none⟩ = false := fun i => by simp [World.frozen?, r0]
   obtain ⟨b0, b1, b2, b3, b4, b5⟩ := row6 r0
   go_upto_region 9 with fail
   obtain ⟨r1, g1⟩ := set6 r0 (.int .i64 y.s0) (.int .i64 y.s1) (.int .i64 y.s2) (.slice y.ra y.rs.length y.rc) (.slice y.sa y.ss.length y.sc) (.slice y.wa y.ws.length y.wc)
   have hC5 : CAt w.heap.size T cc ow ((((((w4.setCell ⟨S, 0, none⟩ (.int .i64 y.s0)).setCell ⟨S, 1, none⟩ (.int .i64 y.s1)).setCell ⟨S, 2, none⟩ (.int .i64 y.s2)).setCell ⟨S, 3, none⟩ (.slice y.ra y.rs.length y.rc)).setCell ⟨S, 4, none⟩ (.slice y.sa y.ss.length y.sc)).setCell ⟨S, 5, none⟩ (.slice y.wa y.ws.length y.wc)) := hC4.keep g1.size fun j hj h0 => g1.block _ hj (by intro e; have e' := Option.some.inj e; exact h0 (by rw [e']; exact zS))
   have hD5 : DRow w.heap.size ow a8 n8 c8 D ((((((w4.setCell ⟨S, 0, none⟩ (.int .i64 y.s0)).setCell ⟨S, 1, none⟩ (.int .i64 y.s1)).setCell ⟨S, 2, none⟩ (.int .i64 y.s2)).setCell ⟨S, 3, none⟩ (.slice y.ra y.rs.length y.rc)).setCell ⟨S, 4, none⟩ (.slice y.sa y.ss.length y.sc)).setCell ⟨S, 5, none⟩ (.slice y.wa y.ws.length y.wc)) := ⟨row_kept hD4.own fun g e => g1.block g (hD4.own.lt g e).2 (by intro e'; exact hDS g e (Option.some.inj e')), hD4.len, hD4.free⟩
   have hb05 := hb04.trans (grown_below g1 hwS hb04.size)
   generalize ((((((w4.setCell ⟨S, 0, none⟩ (.int .i64 y.s0)).setCell ⟨S, 1, none⟩ (.int .i64 y.s1)).setCell ⟨S, 2, none⟩ (.int .i64 y.s2)).setCell ⟨S, 3, none⟩ (.slice y.ra y.rs.length y.rc)).setCell ⟨S, 4, none⟩ (.slice y.sa y.ss.length y.sc)).setCell ⟨S, 5, none⟩ (.slice y.wa y.ws.length y.wc)) = w5 at *
   clear g1 r0 b0 b1 b2 b3 b4 b5 f0 hC4 hD4 hb04
   have HC5 := hid hC5; have HD5 := hid hD5
   obtain ⟨ck, hck⟩ : ∃ k, K.SubV.check y = k := ⟨_, rfl⟩
   have HCK0 := hid hck
   obtain ⟨hz, hhz⟩ : ∃ v, v = cc.horizon := ⟨_, rfl⟩
   have HHZ := hid hhz
   have HCK := hid fun W (hb : Below w5.heap.size w5 W) => (show Calls Tryz.prog 15 #[.agg #[.int .i64 y.s0, .int .i64 y.s1, .int .i64 y.s2, .slice y.ra y.rs.length y.rc, .slice y.sa y.ss.length y.sc, .slice y.wa y.ws.length y.wc]] W (Ret (.int .i64 ck) W) from by have := K.refCheck_any y W (HYA.out.below (hb05.trans (hb.mono hb05.size))); rw [hck] at this; exact this)
   have HCt := hid fun W (hb : Below w5.heap.size w5 W) => (show Calls Tryz.prog 14 #[.pointer (some ⟨T, 0, none⟩)] W (Ret (.int .i64 cnt) W) from by have := count_any (hC5.below hb); rw [← HCN.out] at this; exact this)
   have HHz := hid fun W (hb : Below w5.heap.size w5 W) => (show Calls Tryz.prog 16 #[.pointer (some ⟨T, 0, none⟩)] W (Ret (.int .i64 hz) W) from by have := horizon_any (hC5.below hb); rw [← hhz] at this; exact this)
   obtain ⟨f0b, hf0⟩ : ∃ b, b = (decide (ck = 0) && decide (y.s2 ≤ cnt) && decide (hz ≤ y.s2)) := ⟨_, rfl⟩
   have HF0 := hid hf0
   have hlS : S < w5.heap.size := (Array.getElem?_eq_some_iff.1 r1).1
   clear hck hhz hf0 hC5 hD5
   obtain ⟨b0, b1, b2, b3, b4, b5⟩ := row6 r1
   go_cut [11] from 36 to 52 (fun t11 wc => t11 = .bool f0b ∧ Below w5.heap.size w5 wc)
   case first =>
    have hf := HF0.out
    by_cases h1 : ck = 0
    ·have e1 : (ck == 0) = true := by simpa using h1
     by_cases h2 : y.s2 ≤ cnt
     ·have e2 : decide (y.s2 ≤ cnt) = true := decide_eq_true h2
      by_cases h3 : hz ≤ y.s2
      ·have e3 : decide (hz ≤ y.s2) = true := decide_eq_true h3
       obtain rfl : f0b = true := by rw [hf]; simp [h1, h2, h3]
       clear hf h1 h2 h3
       (refine wp_region_ext (by kernel_rfl) (by kernel_rfl) ?_; (repeat (go_big_quiet_step (first | (go_at_call 15; with_reducible exact Calls.ext_of (HCK.out _ (Ext.b _))) | (go_at_call 14; with_reducible exact Calls.ext_of (HCt.out _ (Ext.b _))) | (go_at_call 16; with_reducible exact Calls.ext_of (HHz.out _ (Ext.b _)))))); refine mX ?_; intro w6 hb6 hc6 hf6 hz6; intros)
       go_wp2_with fail
       go_meet
       case rel => exact ⟨rfl, hb6⟩
      ·have e3 : decide (hz ≤ y.s2) = false := decide_eq_false h3
       obtain rfl : f0b = false := by rw [hf]; simp [h3]
       clear hf h1 h2 h3
       (refine wp_region_ext (by kernel_rfl) (by kernel_rfl) ?_; (repeat (go_big_quiet_step (first | (go_at_call 15; with_reducible exact Calls.ext_of (HCK.out _ (Ext.b _))) | (go_at_call 14; with_reducible exact Calls.ext_of (HCt.out _ (Ext.b _))) | (go_at_call 16; with_reducible exact Calls.ext_of (HHz.out _ (Ext.b _)))))); refine mX ?_; intro w6 hb6 hc6 hf6 hz6; intros)
       go_wp2_with fail
       go_meet
       case rel => exact ⟨rfl, hb6⟩
     ·have e2 : decide (y.s2 ≤ cnt) = false := decide_eq_false h2
      obtain rfl : f0b = false := by rw [hf]; simp [h2]
      clear hf h1 h2
      (refine wp_region_ext (by kernel_rfl) (by kernel_rfl) ?_; (repeat (go_big_quiet_step (first | (go_at_call 15; with_reducible exact Calls.ext_of (HCK.out _ (Ext.b _))) | (go_at_call 14; with_reducible exact Calls.ext_of (HCt.out _ (Ext.b _))) | (go_at_call 16; with_reducible exact Calls.ext_of (HHz.out _ (Ext.b _)))))); refine mX ?_; intro w6 hb6 hc6 hf6 hz6; intros)
      go_wp2_with fail
      go_meet
      case rel => exact ⟨rfl, hb6⟩
    ·have e1 : (ck == 0) = false := by simpa using h1
     obtain rfl : f0b = false := by rw [hf]; simp [h1]
     clear hf h1
     (refine wp_region_ext (by kernel_rfl) (by kernel_rfl) ?_; (repeat (go_big_quiet_step (first | (go_at_call 15; with_reducible exact Calls.ext_of (HCK.out _ (Ext.b _))) | (go_at_call 14; with_reducible exact Calls.ext_of (HCt.out _ (Ext.b _))) | (go_at_call 16; with_reducible exact Calls.ext_of (HHz.out _ (Ext.b _)))))); refine mX ?_; intro w6 hb6 hc6 hf6 hz6; intros)
     go_wp2_with fail
     go_meet
     case rel => exact ⟨rfl, hb6⟩
   case rest =>
    obtain ⟨rfl, hbc⟩ := hcut
    obtain ⟨w6, rfl⟩ : ∃ x, x = wc := ⟨_, rfl⟩
    have HC6 := hid (HC5.out.below hbc)
    have HD6 := hid (HD5.out.below hbc)
    have r1 := (hbc.block _ hlS).trans r1
    have hb06 := hb05.trans (hbc.mono hb05.size)
    have hlS : S < w6.heap.size := (Array.getElem?_eq_some_iff.1 r1).1
    have HAP := hid fun W (hb : Below w6.heap.size w6 W) (d : RecV) (hd : d ∈ D) => (show Calls Tryz.prog 17 #[.agg #[.int .i64 d.s.s0, .int .i64 d.s.s1, .int .i64 d.s.s2, .slice d.s.ra d.s.rs.length d.s.rc, .slice d.s.sa d.s.ss.length d.s.sc, .slice d.s.wa d.s.ws.length d.s.wc], .agg #[.int .i64 y.s0, .int .i64 y.s1, .int .i64 y.s2, .slice y.ra y.rs.length y.rc, .slice y.sa y.ss.length y.sc, .slice y.wa y.ws.length y.wc]] W (Ret (.bool (apartV d.s y)) W) from apart11_any d.s y W ((HDA.out d hd).below (hb06.trans (hb.mono hb06.size))) (HYA.out.below (hb06.trans (hb.mono hb06.size))))
    clear b0 b1 b2 b3 b4 b5 HCK HCt HHz HC5 HD5 hbc hb05
    go_upto_region 11 with fail
    go_loopw [11, 55] (fun t11 t55 wx => ∃ j : Nat, t55 = .int .i64 (j : Nat) ∧ j ≤ n8 ∧ (∃ fb : Bool, t11 = .bool fb ∧ Hid (fb = (f0b && freeB D y j))) ∧ Below w6.heap.size w6 wx) (fun _ t55 _ => n8 - (intOf t55).toNat)
    case atStart => exact ⟨0, rfl, Nat.zero_le _, ⟨f0b, rfl, hid (by rw [freeB_zero, Bool.and_true])⟩, Below.refl _ _⟩
    case round =>
     obtain ⟨j, rfl, hj, ⟨fb, rfl, HFB⟩, hbx⟩ := hrel
     have r1 := (hbx.block _ hlS).trans r1
     have hsx := hbx.size
     have hlSx : S < wr.heap.size := by omega
     obtain ⟨b0, b1, b2, b3, b4, b5⟩ := row6 r1
     by_cases hjl : j < n8
     ·have hjl' : (j : Int) < (n8 : Int) := by omega
      obtain ⟨d, hd⟩ : ∃ d, D[j]? = some d := ⟨_, List.getElem?_eq_getElem (by rw [HDN.out]; exact hjl)⟩
      obtain ⟨gD, rfl, hgB, hgl, e0, e1, e2, e3, e4, e5, e6⟩ := (HD6.out.below hbx).get hjl hd
      have HFS := hid (freeB_snoc y hd)
      have HAPd := fun W hb => HAP.out W hb d (List.mem_of_getElem? hd)
      clear hd
      cases fb
      ·have HR := hid (show false = (f0b && freeB D y (j + 1)) from by rw [HFS.out, ← Bool.and_assoc, ← HFB.out]; rfl)
       go_wp2_with fail
       go_roundw
       case rel => exact ⟨j + 1, by go_num, by omega, ⟨false, rfl, HR⟩, by exact below_auto⟩
       case measure => simp [intOf]; omega
      ·by_cases hdn : d.num ≤ y.s2
       ·have HR := hid (show true = (f0b && freeB D y (j + 1)) from by rw [HFS.out, ← Bool.and_assoc, ← HFB.out]; simp [hdn])
        go_wp2_with fail
        go_roundw
        case rel => exact ⟨j + 1, by go_num, by omega, ⟨true, rfl, HR⟩, by exact below_auto⟩
        case measure => simp [intOf]; omega
       ·obtain ⟨av, hav⟩ : ∃ v, v = apartV d.s y := ⟨_, rfl⟩
        have HR := hid (show av = (f0b && freeB D y (j + 1)) from by rw [HFS.out, ← Bool.and_assoc, ← HFB.out, hav]; simp [hdn])
        rw [← hav] at HAPd
        clear hav
        go_wp2_with (go_at_call 17; (with_reducible refine (HAPd _ (by exact below_auto)).mono ?_); rintro e w7 ⟨rfl, hb7⟩; refine mB hb7 ?_; intro hc7 hf7 hz7; intros)
        go_roundw
        case rel => exact ⟨j + 1, by go_num, by omega, ⟨av, rfl, HR⟩, by exact below_auto⟩
        case measure => simp [intOf]; omega
     ·obtain rfl : j = n8 := by omega
      have hge : ¬ (j : Int) < (j : Int) := by omega
      have HCx := hid (HC6.out.below hbx)
      have HDx := hid (HD6.out.below hbx)
      have hb0x := hb06.trans (hbx.mono hb06.size)
      have HSy := hid (sub_old HYA.out hb0x HCx.out (Nat.le_refl _))
      have hfr : codeD (CL.n cc) (SubV.n y) ck ≠ 0 → fb = false := fun hcd => by
       cases fb
       ·rfl
       ·exfalso
        have h1 := HFB.out
        have h2 : f0b = true ∧ freeB D y j = true := by
         cases f0b <;> simp at h1 ⊢; exact h1
        have h3 := HF0.out
        rw [h2.1] at h3
        simp only [Bool.true_eq, Bool.and_eq_true, decide_eq_true_eq] at h3
        obtain ⟨⟨h4, h5⟩, h6⟩ := h3
        have h7 : (CL.n cc).count = cnt := HCN.out.symm
        refine hcd ?_
        rw [h4]
        exact free_code HI.out (by rw [h7, HCD.out, HDN.out]; omega) (by rw [h7]; exact h5) (by show cc.horizon ≤ y.s2; rw [← HHZ.out]; exact h6) (freeB_all HDN.out h2.2)
      have hmk : (cc.recs.length : Int) ≤ cc.keep := by have := HI.out.few; simpa [CL.n] using this
      clear HAP HC6 HD6 HF0 HHZ HFB hb06
      go_upto_region 15 with fail
      by_cases hcd : codeD (CL.n cc) (SubV.n y) ck = 0
      ·have hk0 := chk_of_code hcd
       have D1 := hid (dec_in HCx.out HI.out HSy.out (HCK0.out.trans hk0) (by rw [hk0] at hcd; exact hcd) (n := (j : Int) + 1) (by rw [List.length_map, HDN.out]))
       clear hcd hk0 hfr hmk
       go_wp2_with fail
       refine D1.out.mono ?_
       rintro e w7 ⟨rfl, cc', ow', out, m', hC7, hF7, hI7, _, _, _⟩
       have r1 := (hF7.block _ hlSx zS).trans r1
       have hD7 := HDx.out.fr hF7
       have hb07 := hb0x.trans (HCx.out.fr_below hF7)
       have HI7 := hid (show Inv (CL.n cc') ((D ++ [(⟨(j : Int) + 1, y, out⟩ : RecV)]).map RecV.n) m' from by rw [List.map_append]; exact hI7)
       clear b0 b1 b2 b3 b4 b5 D1 HCx HDx hb0x HSy hF7 hI7 hbx hlS hlSx hsx
       go_upto_region 16 with fail
       generalize hW8 : World.alloc w7 _ = w8
       have hb8 : Below w7.heap.size w7 w8 := by rw [← hW8]; exact below_auto
       have qV : w8.heap[w7.heap.size]? = some (.cells #[.int .i64 0, .int .i64 ((j : Int) + 1)] 41 (0, 0)) := by rw [← hW8]; exact heap_alloc_new w7 _
       obtain ⟨V, hV⟩ : ∃ V, V = w7.heap.size := ⟨_, rfl⟩
       rw [← hV] at qV ⊢
       have r1 := (hb8.block _ (Array.getElem?_eq_some_iff.1 r1).1).trans r1
       have HC8 := hid (hC7.below hb8)
       have HD8 := hid (hD7.below hb8)
       have hb08 := hb07.trans (hb8.mono hb07.size)
       clear hW8 hV hb8 hC7 hD7 hb07
       obtain ⟨b0, b1, b2, b3, b4, b5⟩ := row6 r1
       obtain ⟨v0, v1, -, -⟩ := row2 qV
       have hlS : S < w8.heap.size := (Array.getElem?_eq_some_iff.1 r1).1
       have hlV : V < w8.heap.size := (Array.getElem?_eq_some_iff.1 qV).1
       go_cut [82] from 77 to 82 (fun t82 wc => t82 = .bool false ∧ wc = w8)
       case first =>
        cases fb
        ·go_wp2_with fail
         go_meet
         case rel => exact ⟨rfl, rfl⟩
        ·go_wp2_with fail
         go_meet
         case rel => exact ⟨rfl, rfl⟩
       case rest =>
        obtain ⟨rfl, rfl⟩ := hcut
        obtain ⟨w8, rfl⟩ : ∃ x, x = wc := ⟨_, rfl⟩
        go_upto_region 21 with fail
        have hb9 : Below w8.heap.size w8 (w8.alloc (.cells (dEnc ⟨(j : Int) + 1, y, out⟩).toArray 37)) := by exact below_auto
        obtain ⟨a2, c2, w9, hr, hD9, hC9, hb89, hg9⟩ := app_dn ⟨(j : Int) + 1, y, out⟩ (HD8.out.below hb9) (HC8.out.below hb9) (by omega) w8.heap.size (fun j' u hj' => by
         rw [cell_of_row _ _ j' _ _ (0, 0) (heap_alloc_new w8 (.cells (dEnc ⟨(j : Int) + 1, y, out⟩).toArray 37))]
         rw [← hj']; simp)
        have HC9 := hid hC9; have HD9 := hid hD9
        have hb09 := (hb08.trans (hb9.mono hb08.size)).trans hb89
        clear hC9 hD9 hb89 hg9 hb9
        unfold dEnc at hr
        go_wp2_with (at_builtin; refine Lib.wpList_append_run _ rfl _ _ _ _ rfl _ _ rfl rfl _ _ (hr _) ?_)
        go_roundw
        case rel => exact ⟨k + 1, j + 1, c2, a2, cc', ow', _, m', rfl, by go_num, by omega, by omega, HD9, hid (fun d hd => by
         rcases List.mem_append.1 hd with hd | hd
         ·exact HDA.out d hd
         ·rw [List.mem_singleton.1 hd]; exact HYA.out), HC9, HI7, hb09⟩
        case measure => simp [intOf]; omega
      ·obtain rfl : fb = false := hfr hcd
       obtain ⟨cd, hcde⟩ : ∃ v, codeD (CL.n cc) (SubV.n y) ck = v := ⟨_, rfl⟩
       have D1 := hid (dec_no HCx.out hmk (x := y) ⟨rfl, rfl, rfl, rfl, rfl, rfl⟩ HSy.out (code := cd) (by rw [HCK0.out]; exact hcde) (by rw [← hcde]; exact hcd))
       have hcb : (cd == 0) = false := by rw [hcde] at hcd; simpa using hcd
       clear hcd hcde hfr hmk
       go_wp2_with fail
       refine D1.out.mono ?_
       rintro e w7 ⟨rfl, ow', hC7, hF7⟩
       have HD7 := hid (HDx.out.fr hF7)
       have HC7 := hid hC7
       have hb07 := hb0x.trans (HCx.out.fr_below hF7)
       have hz7 := hb07.size
       clear b0 b1 b2 b3 b4 b5 D1 HCx HDx hb0x HSy hF7 hC7 hbx hlS hlSx hsx
       go_wp2_with fail
       go_roundw
       case rel => exact ⟨k + 1, j, c8, a8, cc, ow', D, m, rfl, by go_num, by omega, by omega, hid (HD7.out.below (by exact below_auto)), HDA, hid (HC7.out.below (by exact below_auto)), HI, by exact below_auto⟩
       case measure => simp [intOf]; omega
  ·obtain rfl : k = n := by omega
   have hge : ¬ (k : Int) < (k : Int) := by omega
   have HCt := hid fun W (hb : Below wr.heap.size wr W) => (show Calls Tryz.prog 14 #[.pointer (some ⟨T, 0, none⟩)] W (Ret (.int .i64 (n8 : Int)) W) from by have := count_any (HC.out.below hb); rw [HI.out.cnt, HD.out.len] at this; exact this)
   have hsz := hbw.size
   go_wp2_with (go_at_call 14; (with_reducible refine (HCt.out _ (by exact below_auto)).mono ?_); rintro e w7 ⟨rfl, hb7⟩; refine mB hb7 ?_; intro hc7 hf7 hz7; intros)
   go_ret
   exact ⟨rfl, by exact below_auto⟩
end Go.Proofs.YtfbachckdadhoaaGreat.C
