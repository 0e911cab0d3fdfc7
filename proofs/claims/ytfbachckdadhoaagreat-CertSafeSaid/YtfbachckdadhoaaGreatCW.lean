/- The walk of CertChains. -/
import Derived.Test.YtfbachckdadhoaaGreatCV
import Derived.Test.YtfbachckdadhoaaGreatCU
import Derived.Test.YtfbachckdadhoaaGreatSQ
namespace Go.Proofs.YtfbachckdadhoaaGreat.C
set_option linter.unusedVariables false
open Go.RowKit Fl
set_option linter.unusedSimpArgs false

theorem dec_in {B T : Nat} {c : CL} {ow : Nat → Nat} {w : World} (h : CAt B T c ow w) {ds : List RecV} {m : Nat} (hI : Inv (CL.n c) ds m) {x : SubV} (hx : SubL (fun k => ow k = 0) x w) (hchk : K.SubV.check x = 0) (hcode : codeD (CL.n c) (SubV.n x) 0 = 0) {n : Int} (hn : (ds.length : Int) + 1 = n) :
  Calls Tryz.prog 18 #[.pointer (some ⟨T, 0, none⟩), .agg #[.int .i64 x.s0, .int .i64 x.s1, .int .i64 x.s2, .slice x.ra x.rs.length x.rc, .slice x.sa x.ss.length x.sc, .slice x.wa x.ws.length x.wc]] w fun e w' => e = .returned (.agg #[.int .i64 0, .int .i64 n]) ∧ ∃ (c' : CL) (ow' : Nat → Nat) (out : Bool) (m' : Nat), CAt B T c' ow' w' ∧ Fr ow ow' w w' ∧ Inv (CL.n c') (ds ++ [⟨n, SubV.n x, out⟩]) m' ∧ out = decide (0 < (lookD (CL.n c) (SubV.n x)).least) ∧ c.horizon ≤ c'.horizon ∧ m ≤ m' := by
 have hl : (c.recs.length : Int) ≤ c.keep := by have := hI.few; simpa [CL.n] using this
 have hcnt : c.count + 1 = n := by rw [← hn]; exact congrArg (· + 1) hI.count
 refine (dec_ok h hl ⟨rfl, rfl, rfl, rfl, rfl, rfl⟩ hx hchk hcode hcnt).mono ?_
 rintro e w' ⟨rfl, c', ow', h1, h2, h3⟩
 obtain ⟨m', h4, h5, _, h6, _⟩ := hI.commit (SubV.n x) (decide (0 < (lookD (CL.n c) (SubV.n x)).least))
 rw [← h3] at h4 h6
 have e1 : (CL.n c).count + 1 = n := hcnt
 rw [e1] at h4
 exact ⟨rfl, c', ow', _, m', h1, h2, h4, rfl, h6, h5⟩
set_option maxHeartbeats 4000000 in
set_option maxRecDepth 100000 in
theorem certChains_walk (keep old : Int) (a : Option Addr) (cp : Nat) (xs : List SubV) (w : World) (_hk : -9223372036854775808 ≤ keep ∧ keep ≤ 9223372036854775807) (ho : -9223372036854775808 ≤ old ∧ old ≤ 9223372036854775807) (hx : SqAt w a xs) (hlen : xs.length ≤ 1048576) (_hc : xs.length ≤ cp) :
  Calls Tryz.prog 6 #[.int .i64 keep, .int .i64 old, .slice a xs.length cp] w (Ret (.bool true) w) := by
 have HX := hid hx
 obtain ⟨n, hn⟩ : ∃ n, n = xs.length := ⟨_, rfl⟩
 have HN := hid hn
 rw [← hn] at hlen ⊢
 clear hx hn
 have HNew := hid (new_any keep old w ho)
 clear ho
 go_enter Tryz.func6, Tryz.ntmps6
 go_wp2_with fail
 refine HNew.out.mono ?_
 rintro e w1 ⟨T, p1, p2, p3, p4, ow, rfl, hC1, hb1⟩
 clear HNew
 go_wp2_with fail
 refine (alive11_any w1).mono ?_
 rintro e w2 ⟨rfl, hb2⟩
 have HC2 := hid (hC1.below hb2)
 have hb02 := hb1.trans (hb2.mono hb1.size)
 clear hC1 hb1 hb2
 have HI0 := hid (Inv.new (min (max keep 1) 32) old (by omega) p1 p2 p3 p4)
 go_upto_region 6 with fail
 go_loopw [8, 24] (fun t8 t24 wr => ∃ (k dl : Nat) (cc : CL) (ow : Nat → Nat) (ds : List RecV) (m : Nat), t8 = .int .i64 (dl : Nat) ∧ t24 = .int .i64 (k : Nat) ∧ k ≤ n ∧ dl ≤ k ∧ Hid (ds.length = dl) ∧ Hid (CAt w.heap.size T cc ow wr) ∧ Hid (Inv (CL.n cc) ds m) ∧ Below w.heap.size w wr) (fun _ t24 _ => n - (intOf t24).toNat)
 case atStart => exact ⟨0, 0, _, ow, [], 0, rfl, rfl, Nat.zero_le _, Nat.le_refl _, hid rfl, HC2, HI0, hb02⟩
 case round =>
  obtain ⟨k, dl, cc, ow, ds, m, rfl, rfl, hk, hdl, HDL, HC, HI, hbw⟩ := hrel
  clear HC2 HI0 hb02 w2
  by_cases hlt : k < n
  ·have hlt' : (k : Int) < (n : Int) := by omega
   obtain ⟨g, o, rfl, hg, hxa, c0, c1, c2, c3, c4, c5⟩ := (HX.out.below hbw).get (k := k) (by rw [← HN.out]; exact hlt)
   have HA := hid (HX.out.sub k (by rw [← HN.out]; exact hlt))
   generalize xs[k]?.getD noSub = x at *
   clear hxa
   go_upto_region 8 with fail
   generalize hW3 : World.alloc wr _ = w3
   have hb3 : Below wr.heap.size wr w3 := by rw [← hW3]; exact below_auto
   have q0 : w3.heap[wr.heap.size]? = some (.cells #[.int .i64 x.s0, .int .i64 x.s1, .int .i64 x.s2, .slice x.ra x.rs.length x.rc, .slice x.sa x.ss.length x.sc, .slice x.wa x.ws.length x.wc] 32 (0, 0)) := by rw [← hW3]; exact heap_alloc_new wr _
   obtain ⟨S, hS⟩ : ∃ S, S = wr.heap.size := ⟨_, rfl⟩
   have zS : ow S = 0 := Classical.byContradiction fun h0 => by have := (HC.out.low S h0).2; omega
   have hC3 := HC.out.below hb3
   have hwS : w.heap.size ≤ S := by rw [hS]; exact hbw.size
   have hb03 := hbw.trans (hb3.mono hbw.size)
   rw [← hS] at q0 ⊢
   clear c0 c1 c2 c3 c4 c5 hW3 hb3 hS
   obtain ⟨b0, b1, b2, b3, b4, b5⟩ := row6 q0
   have f0 : w3.frozen? ⟨S, 2, none⟩ = false := by simp [World.frozen?, q0]
   have hlS : S < w3.heap.size := (Array.getElem?_eq_some_iff.1 q0).1
   go_upto_region 9 with fail
   obtain ⟨r0, g0⟩ := K.set1 (i := 2) q0 (.int .i64 (dl : Nat))
   have hC4 : CAt w.heap.size T cc ow (w3.setCell ⟨S, 2, none⟩ (.int .i64 (dl : Nat))) := hC3.keep g0.size fun j hj h0 => g0.block _ hj (by intro e; have e' := Option.some.inj e; exact h0 (by rw [e']; exact zS))
   have hb04 := hb03.trans (grown_below g0 hwS hb03.size)
   generalize w3.setCell ⟨S, 2, none⟩ (.int .i64 (dl : Nat)) = w4 at *
   have r0 : w4.heap[S]? = some (.cells #[.int .i64 x.s0, .int .i64 x.s1, .int .i64 (dl : Nat), .slice x.ra x.rs.length x.rc, .slice x.sa x.ss.length x.sc, .slice x.wa x.ws.length x.wc] 32 (0, 0)) := r0
   clear g0 q0 b0 b1 b2 b3 b4 b5 f0 hlS hC3 hb03 w3
   have HY := hid (show ({ x with s2 := (dl : Int) } : SubV).At w from ⟨HA.out.r, HA.out.s, HA.out.w⟩)
   have HSA := hid (sub_old HY.out hb04 hC4 (Nat.le_refl _))
   have H4 := hid hC4
   obtain ⟨ck, hck⟩ : ∃ k, K.SubV.check { x with s2 := (dl : Int) } = k := ⟨_, rfl⟩
   have HCKV := hid hck
   have hlS : S < w4.heap.size := (Array.getElem?_eq_some_iff.1 r0).1
   have hcd : (CL.n cc).count = (dl : Int) := by rw [HI.out.count, HDL.out]
   have hmk : (cc.recs.length : Int) ≤ cc.keep := by have := HI.out.few; simpa [CL.n] using this
   obtain ⟨b0, b1, b2, b3, b4, b5⟩ := row6 r0
   clear hck
   by_cases hk0 : ck = 0
   ·subst hk0
    have D1 := hid (dec_in hC4 HI.out (x := { x with s2 := (dl : Int) }) HSA.out HCKV.out (chain_code HI.out (by rw [hcd]; omega) (x := SubV.n { x with s2 := (dl : Int) }) hcd.symm) (n := (dl : Int) + 1) (by rw [HDL.out]))
    clear hC4 hcd hmk
    go_wp2_with fail
    refine D1.out.mono ?_
    rintro e w5 ⟨rfl, cc', ow', out, m', hC5, hF5, hI5, _, _, _⟩
    have r0 := (hF5.block _ hlS zS).trans r0
    have hb05 := hb04.trans (H4.out.fr_below hF5)
    have HC5 := hid hC5; have HI5 := hid hI5
    have HCK := hid fun W (hb : Below w5.heap.size w5 W) => (show Calls Tryz.prog 15 #[.agg #[.int .i64 x.s0, .int .i64 x.s1, .int .i64 (dl : Nat), .slice x.ra x.rs.length x.rc, .slice x.sa x.ss.length x.sc, .slice x.wa x.ws.length x.wc]] W (Ret (.int .i64 0) W) from by have := K.refCheck_any { x with s2 := (dl : Int) } W (HY.out.below (hb05.trans (hb.mono hb05.size))); rw [HCKV.out] at this; exact this)
    clear b0 b1 b2 b3 b4 b5 D1 hC5 hI5 hF5 hb04 H4 hlS zS
    obtain ⟨b0, b1, b2, b3, b4, b5⟩ := row6 r0
    have hlS : S < w5.heap.size := (Array.getElem?_eq_some_iff.1 r0).1
    go_wp2_with (go_at_call 15; (with_reducible refine (HCK.out _ (by clear hb05 hbw; exact below_auto)).mono ?_); rintro e w6 ⟨rfl, hb6⟩; refine mB hb6 ?_; intro hc6 hf6 hz6; intros)
    go_roundw
    case rel => exact ⟨k + 1, dl + 1, cc', ow', _, m', by go_num, by go_num, by omega, by omega, hid (by rw [List.length_append, HDL.out]; rfl), hid (HC5.out.below (by clear hb05 hbw; exact below_auto)), HI5, by clear hbw; exact below_auto⟩
    case measure => simp [intOf]; omega
   ·have D1 := hid (dec_no hC4 hmk (x := { x with s2 := (dl : Int) }) ⟨rfl, rfl, rfl, rfl, rfl, rfl⟩ HSA.out (code := ck) (by unfold codeD; rw [HCKV.out, if_pos hk0]) hk0)
    have hkb : (ck == 0) = false := by simpa using hk0
    clear hC4 hcd hmk
    go_wp2_with fail
    refine D1.out.mono ?_
    rintro e w5 ⟨rfl, ow', hC5, hF5⟩
    have r0 := (hF5.block _ hlS zS).trans r0
    have hb05 := hb04.trans (H4.out.fr_below hF5)
    have HC5 := hid hC5
    have HCK := hid fun W (hb : Below w5.heap.size w5 W) => (show Calls Tryz.prog 15 #[.agg #[.int .i64 x.s0, .int .i64 x.s1, .int .i64 (dl : Nat), .slice x.ra x.rs.length x.rc, .slice x.sa x.ss.length x.sc, .slice x.wa x.ws.length x.wc]] W (Ret (.int .i64 ck) W) from by have := K.refCheck_any { x with s2 := (dl : Int) } W (HY.out.below (hb05.trans (hb.mono hb05.size))); rw [HCKV.out] at this; exact this)
    clear b0 b1 b2 b3 b4 b5 D1 hC5 hF5 hb04 H4 hlS zS hk0
    obtain ⟨b0, b1, b2, b3, b4, b5⟩ := row6 r0
    have hlS : S < w5.heap.size := (Array.getElem?_eq_some_iff.1 r0).1
    go_wp2_with (go_at_call 15; (with_reducible refine (HCK.out _ (by clear hb05 hbw; exact below_auto)).mono ?_); rintro e w6 ⟨rfl, hb6⟩; refine mB hb6 ?_; intro hc6 hf6 hz6; intros)
    go_roundw
    case rel => exact ⟨k + 1, dl, cc, ow', ds, m, by go_num, by go_num, by omega, by omega, HDL, hid (HC5.out.below (by clear hb05 hbw; exact below_auto)), HI, by clear hbw; exact below_auto⟩
    case measure => simp [intOf]; omega
  ·obtain rfl : k = n := by omega
   have hge : ¬ (k : Int) < (k : Int) := by omega
   have hcnt : cc.count = (dl : Int) := by have := HI.out.count; rw [HDL.out] at this; exact this
   have hhz : cc.horizon ≤ (dl : Int) := by have := HI.out.hz; have h2 : (CL.n cc).count = cc.count := rfl; have h3 : (CL.n cc).horizon = cc.horizon := rfl; rw [h2, h3, hcnt] at this; omega
   have HCt := hid fun W (hb : Below wr.heap.size wr W) => (show Calls Tryz.prog 14 #[.pointer (some ⟨T, 0, none⟩)] W (Ret (.int .i64 (dl : Int)) W) from by have := count_any (HC.out.below hb); rw [hcnt] at this; exact this)
   have HHz := hid fun W (hb : Below wr.heap.size wr W) => horizon_any (HC.out.below hb)
   generalize cc.horizon = hz at *
   have hsz := hbw.size
   clear hcnt
   go_wp2_with (first | (go_at_call 14; (with_reducible refine (HCt.out _ (by exact below_auto)).mono ?_); rintro e w7 ⟨rfl, hb7⟩; refine mB hb7 ?_; intro hc7 hf7 hz7; intros) | (go_at_call 16; (with_reducible refine (HHz.out _ (by exact below_auto)).mono ?_); rintro e w8 ⟨rfl, hb8⟩; refine mB hb8 ?_; intro hc8 hf8 hz8; intros))
   go_ret
   exact ⟨rfl, by exact below_auto⟩
end Go.Proofs.YtfbachckdadhoaaGreat.C
