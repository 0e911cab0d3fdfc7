/- CertSafe: two beside each other; what one that commits has seen; the walk. -/
import Derived.Test.YtfbachckdadhoaaGreatCY
import Derived.Test.YtfbachckdadhoaaGreatCZ0
namespace Go.Proofs.YtfbachckdadhoaaGreat.C
set_option linter.unusedVariables false
open Go.RowKit Fl
set_option linter.unusedSimpArgs false

def nearV (a b : RecV) : Bool := !decide (a.num = b.num) && decide (a.s.s2 < b.num) && decide (b.s.s2 < a.num)
theorem nearV_spec {a b : RecV} (h : nearV a b = true) : a.num ≠ b.num ∧ a.s.s2 < b.num ∧ b.s.s2 < a.num := by
 unfold nearV at h
 simp only [Bool.and_eq_true, Bool.not_eq_true', decide_eq_true_eq, decide_eq_false_iff_not] at h
 exact ⟨h.1.1, h.1.2, h.2⟩
theorem near_any (a b : RecV) (v : Bool) (w : World) (hv : nearV a b = v) :
  Calls Tryz.prog 19 #[.agg #[.int .i64 a.num, .int .i64 a.s.s0, .int .i64 a.s.s1, .int .i64 a.s.s2, .slice a.s.ra a.s.rs.length a.s.rc, .slice a.s.sa a.s.ss.length a.s.sc, .slice a.s.wa a.s.ws.length a.s.wc], .agg #[.int .i64 b.num, .int .i64 b.s.s0, .int .i64 b.s.s1, .int .i64 b.s.s2, .slice b.s.ra b.s.rs.length b.s.rc, .slice b.s.sa b.s.ss.length b.s.sc, .slice b.s.wa b.s.ws.length b.s.wc]] w (Ret (.bool v) w) := by
 unfold nearV at hv
 obtain ⟨an, ⟨a0, a1, a2, ra, rc, rs, sa, sc, ss, wa, wc, ws⟩, ao⟩ := a
 obtain ⟨bn, ⟨b0, b1, b2, qa, qc, qs, ta, tc, ts, ua, uc, us⟩, bo⟩ := b
 simp only at hv ⊢
 generalize rs.length = n1 at *
 generalize ss.length = n2 at *
 generalize ws.length = n3 at *
 generalize qs.length = n4 at *
 generalize ts.length = n5 at *
 generalize us.length = n6 at *
 by_cases h0 : an = bn
 ·have e0 : (an != bn) = false := by simpa using h0
  obtain rfl : false = v := by rw [← hv]; simp [h0]
  clear hv h0
  go_enter Tryz.func19, Tryz.ntmps19
  go_wp2
  go_ret
  exact ⟨rfl, by exact below_auto⟩
 have e0 : (an != bn) = true := by simpa using h0
 by_cases h1 : a2 < bn
 ·by_cases h2 : b2 < an
  ·obtain rfl : true = v := by rw [← hv]; simp [h0, h1, h2]
   clear hv h0
   go_enter Tryz.func19, Tryz.ntmps19
   go_wp2
   go_ret
   exact ⟨rfl, by exact below_auto⟩
  ·obtain rfl : false = v := by rw [← hv]; simp [h0, h1, h2]
   clear hv h0
   go_enter Tryz.func19, Tryz.ntmps19
   go_wp2
   go_ret
   exact ⟨rfl, by exact below_auto⟩
 ·obtain rfl : false = v := by rw [← hv]; simp [h1]
  clear hv h0
  go_enter Tryz.func19, Tryz.ntmps19
  go_wp2
  go_ret
  exact ⟨rfl, by exact below_auto⟩
theorem row7 {w : World} {b : Nat} {x0 x1 x2 x3 x4 x5 x6 : Value} {T : TypeId} (h : w.heap[b]? = some (.cells #[x0, x1, x2, x3, x4, x5, x6] T (0, 0))) :
  w.cell? ⟨b, 0, none⟩ = some x0 ∧ w.cell? ⟨b, 1, none⟩ = some x1 ∧ w.cell? ⟨b, 2, none⟩ = some x2 ∧ w.cell? ⟨b, 3, none⟩ = some x3 ∧ w.cell? ⟨b, 4, none⟩ = some x4 ∧ w.cell? ⟨b, 5, none⟩ = some x5 ∧ w.cell? ⟨b, 6, none⟩ = some x6 :=
 ⟨cell_row h 0, cell_row h 1, cell_row h 2, cell_row h 3, cell_row h 4, cell_row h 5, cell_row h 6⟩
theorem dec_in2 {B T : Nat} {c : CL} {ow : Nat → Nat} {w : World} (h : CAt B T c ow w) {ds : List RecV} {m : Nat} (hI : Inv2 (CL.n c) ds m) (hS : Safe ds) {x : SubV} (hx : SubL (fun k => ow k = 0) x w) (hchk : K.SubV.check x = 0) (hcode : codeD (CL.n c) (SubV.n x) 0 = 0) {n : Int} (hn : (ds.length : Int) + 1 = n) :
  Calls Tryz.prog 18 #[.pointer (some ⟨T, 0, none⟩), .agg #[.int .i64 x.s0, .int .i64 x.s1, .int .i64 x.s2, .slice x.ra x.rs.length x.rc, .slice x.sa x.ss.length x.sc, .slice x.wa x.ws.length x.wc]] w fun e w' => e = .returned (.agg #[.int .i64 0, .int .i64 n]) ∧ ∃ (c' : CL) (ow' : Nat → Nat) (out : Bool) (m' : Nat), CAt B T c' ow' w' ∧ Fr ow ow' w w' ∧ Inv2 (CL.n c') (ds ++ [⟨n, SubV.n x, out⟩]) m' ∧ Safe (ds ++ [⟨n, SubV.n x, out⟩]) := by
 have hl : (c.recs.length : Int) ≤ c.keep := by have := hI.inv.few; simpa [CL.n] using this
 have hcnt : c.count + 1 = n := by rw [← hn]; exact congrArg (· + 1) hI.inv.count
 refine (dec_ok h hl ⟨rfl, rfl, rfl, rfl, rfl, rfl⟩ hx hchk hcode hcnt).mono ?_
 rintro e w' ⟨rfl, c', ow', h1, h2, h3⟩
 obtain ⟨m', h4⟩ := hI.commit (SubV.n x) (decide (0 < (lookD (CL.n c) (SubV.n x)).least))
 rw [← h3] at h4
 have e1 : (CL.n c).count + 1 = n := hcnt
 rw [e1] at h4
 exact ⟨rfl, c', ow', _, m', h1, h2, h4, hS.snoc (seen_of hI hcode)⟩
theorem Inv.numsUp {c : CL} {ds : List RecV} {m : Nat} (h : Inv c ds m) : numsUp ds := h.nums
theorem safeD_write {D : List RecV} (h : Safe (D.map RecV.n)) (hn : numsUp (D.map RecV.n)) {a b : RecV} (ha : a ∈ D) (hb : b ∈ D) (hv : nearV a b = true) {k : Nat} (hk : k ∈ a.s.ws) : b.s.writes k = false := by
 obtain ⟨h1, h2, h3⟩ := nearV_spec hv
 exact safe_write h hn (List.mem_map_of_mem ha) (List.mem_map_of_mem hb) h1 h2 h3 hk
theorem safeD_three {D : List RecV} (h : Safe (D.map RecV.n)) (hn : numsUp (D.map RecV.n)) {a b d : RecV} (ha : a ∈ D) (hb : b ∈ D) (hd : d ∈ D) (hv : nearV a b = true) (hm : a.s.meets b.s = true) (hnd : nearV b d = true ∨ d.num = a.num) (hm2 : b.s.meets d.s = true) (h4 : d.num ≤ a.num) (h5 : d.num < b.num) : False := by
 obtain ⟨h1, h2, h3⟩ := nearV_spec hv
 exact safe_three h hn (List.mem_map_of_mem ha) (List.mem_map_of_mem hb) (List.mem_map_of_mem hd) h1 h2 h3 hm (hnd.imp (fun q => nearV_spec q) id) hm2 h4 h5
set_option maxHeartbeats 8000000 in
set_option maxRecDepth 100000 in
theorem certSafe_walk (keep old : Int) (a : Option Addr) (cp : Nat) (xs : List SubV) (w : World) (_hk : -9223372036854775808 ≤ keep ∧ keep ≤ 9223372036854775807) (ho : -9223372036854775808 ≤ old ∧ old ≤ 9223372036854775807) (hx : SqAt w a xs) (hlen : xs.length ≤ 4398046511104) (hc : xs.length ≤ cp) :
  Calls Tryz.prog 4 #[.int .i64 keep, .int .i64 old, .slice a xs.length cp] w (Ret (.bool true) w) := by
 have HX := hid hx
 obtain ⟨n, hn⟩ : ∃ n, n = xs.length := ⟨_, rfl⟩
 have HN := hid hn
 rw [← hn] at hlen hc ⊢
 clear hx hn
 have HNew := hid (new_any keep old w ho)
 clear ho
 go_enter Tryz.func4, Tryz.ntmps4
 go_wp2_with fail
 refine HNew.out.mono ?_
 rintro e w1 ⟨T, p1, p2, p3, p4, ow, rfl, hC1, hb1⟩
 clear HNew
 go_wp2_with fail
 refine (alive11_any w1).mono ?_
 rintro e w2 ⟨rfl, hb2⟩
 have HC2 := hid (hC1.below hb2)
 have hb02 := hb1.trans (hb2.mono hb1.size)
 clear hC1 hb1 hb2
 have HI0 := hid (Inv2.new (min (max keep 1) 32) old (by omega) p1 p2 p3 p4)
 obtain ⟨L, hLn, hL60, hL0⟩ : ∃ L, L ≤ n ∧ L ≤ 60 ∧ (60 < n → L = 60) ∧ (¬ 60 < n → L = n) := by
  by_cases h : 60 < n
  ·exact ⟨60, by omega, by omega, by omega, by omega⟩
  ·exact ⟨n, by omega, by omega, by omega, by omega⟩
 have HL0 := hid hL0
 clear hL0
 go_upto_if 32 with fail
 go_cut [2] from 32 to 34 (fun t2 wc => t2 = .slice a L cp ∧ wc = w2)
 case first =>
  have hL0 := HL0.out
  by_cases h60 : 60 < n
  ·obtain rfl : L = 60 := hL0.1 h60
   have h60' : (60 : Int) < (n : Int) := by omega
   obtain ⟨b, o, ha⟩ : ∃ b o, a = some ⟨b, o, none⟩ := by
    rcases HX.out.row with h0 | ⟨b, o, h1, _⟩
    ·have := HN.out; rw [h0] at this; simp at this; omega
    ·exact ⟨b, o, h1⟩
   subst ha
   clear hL0
   go_wp2_with fail
   go_meet
   case rel => exact ⟨rfl, rfl⟩
  ·obtain rfl : L = n := hL0.2 h60
   have h60' : ¬ (60 : Int) < (L : Int) := by omega
   clear hL0
   go_wp2_with fail
   go_meet
   case rel => exact ⟨rfl, rfl⟩
 case rest =>
 obtain ⟨rfl, rfl⟩ := hcut
 obtain ⟨w2, rfl⟩ : ∃ x, x = wc := ⟨_, rfl⟩
 have HD2 := hid (DRow.lit HC2.out)
 have HC2' := hid (HC2.out.below (w' := w2.alloc (.cells #[] 37)) (by exact below_auto))
 have hz2 := hb02.size
 have hb02' : Below w.heap.size w (w2.alloc (.cells #[] 37)) := by exact below_auto
 clear HL0
 go_upto_region 8 with fail
 go_loopw [8, 38] (fun t8 t38 wr => ∃ (k n8 c8 : Nat) (a8 : Option Addr) (cc : CL) (ow : Nat → Nat) (D : List RecV) (m : Nat), t8 = .slice a8 n8 c8 ∧ t38 = .int .i64 (k : Nat) ∧ k ≤ L ∧ n8 ≤ k ∧ Hid (DRow w.heap.size ow a8 n8 c8 D wr) ∧ Hid (∀ d ∈ D, d.s.At w) ∧ Hid (CAt w.heap.size T cc ow wr) ∧ Hid (Inv2 (CL.n cc) (D.map RecV.n) m) ∧ Hid (Safe (D.map RecV.n)) ∧ Below w.heap.size w wr) (fun _ t38 _ => L - (intOf t38).toNat)
 case atStart => exact ⟨0, 0, 0, _, _, ow, [], 0, rfl, rfl, Nat.zero_le _, Nat.le_refl _, HD2, hid (fun d hd => by cases hd), HC2', HI0, hid Safe.nil, hb02'⟩
 case round =>
  obtain ⟨k, n8, c8, a8, cc, ow, D, m, rfl, rfl, hk, hdl, HD, HDA, HC, HI, HS, hbw⟩ := hrel
  clear HC2 HI0 hb02 HD2 HC2' hb02'
  by_cases hlt : k < L
  ·have hlt' : (k : Int) < (L : Int) := by omega
   obtain ⟨g, o, rfl, hg, hxa, c0, c1, c2, c3, c4, c5⟩ := (HX.out.below hbw).get (k := k) (by rw [← HN.out]; exact Nat.lt_of_lt_of_le hlt hLn)
   have HA := hid (HX.out.sub k (by rw [← HN.out]; exact Nat.lt_of_lt_of_le hlt hLn))
   generalize xs[k]?.getD noSub = x at *
   clear hxa
   go_upto_region 10 with fail
   generalize hW3 : World.alloc wr _ = w3
   have hb3 : Below wr.heap.size wr w3 := by rw [← hW3]; exact below_auto
   have q0 : w3.heap[wr.heap.size]? = some (.cells #[.int .i64 x.s0, .int .i64 x.s1, .int .i64 x.s2, .slice x.ra x.rs.length x.rc, .slice x.sa x.ss.length x.sc, .slice x.wa x.ws.length x.wc] 32 (0, 0)) := by rw [← hW3]; exact heap_alloc_new wr _
   obtain ⟨S, hS⟩ : ∃ S, S = wr.heap.size := ⟨_, rfl⟩
   have zS : ow S = 0 := Classical.byContradiction fun h0 => by have := (HC.out.low S h0).2; omega
   have hC3 := HC.out.below hb3
   have hD3 := HD.out.below hb3
   have hwS : w.heap.size ≤ S := by rw [hS]; exact hbw.size
   have hDS : ∀ g, (Value.slice a8 n8 c8).ownBlock = some g → g ≠ S := fun g e => by have := (HD.out.own.lt g e).2; omega
   have hb03 := hbw.trans (hb3.mono hbw.size)
   rw [← hS] at q0 ⊢
   clear c0 c1 c2 c3 c4 c5 hW3 hb3 hS
   obtain ⟨b0, b1, b2, b3, b4, b5⟩ := row6 q0
   have f0 : ∀ i, w3.frozen? ⟨S, i, none⟩ = false := fun i => by simp [World.frozen?, q0]
   have hlS : S < w3.heap.size := (Array.getElem?_eq_some_iff.1 q0).1
   obtain ⟨cnt, hcnt⟩ : ∃ v, v = cc.count := ⟨_, rfl⟩
   have hcD : cnt = (D.length : Int) := hcnt.trans HI.out.inv.cnt
   have hDn := HD.out.len
   have hcb : 0 ≤ cnt ∧ cnt ≤ 1099511627776 := by omega
   obtain ⟨y, hy⟩ : ∃ y, snapV x cnt = y := ⟨_, rfl⟩
   have HYA := hid (show y.At w from by rw [← hy]; exact snapV_at HA.out cnt)
   have HCt := hid fun W (hb : Below w3.heap.size w3 W) => (show Calls Tryz.prog 14 #[.pointer (some ⟨T, 0, none⟩)] W (Ret (.int .i64 cnt) W) from by have := count_any (hC3.below hb); rw [← hcnt] at this; exact this)
   have HSn := hid fun W => snap11_any x y cnt W hcb hy
   have HC3 := hid hC3; have HD3 := hid hD3
   have HCD := hid hcD; have HDN := hid hDn; have HCN := hid hcnt; have HY0 := hid hy
   clear hC3 hD3 hcD hDn hcnt hy
   (refine wp_region_ext_tail 4 (by kernel_rfl) (by kernel_rfl) (by kernel_rfl) ?_; simp only [List.take_succ_cons, List.take_zero, List.drop_succ_cons, List.drop_zero]; (repeat (go_big_quiet_step (first | (go_at_call 14; with_reducible exact Calls.ext_of (HCt.out _ (Ext.b _))) | (go_at_call 13; with_reducible exact Calls.ext_of (HSn.out _))))); refine mX ?_; intro w4 hb4 hc4 hf4 hz4; intros)
   have r0 := (hb4.block _ hlS).trans q0
   have hC4 := HC3.out.below hb4
   have hD4 := HD3.out.below hb4
   have hb04 := hb03.trans (hb4.mono hb03.size)
   clear b0 b1 b2 b3 b4 b5 f0 q0 hb4 hc4 hf4 hz4 HCt HSn HC3 HD3 hb03 hlS
   have f0 : ∀ i, w4.frozen? ⟨S, i, none⟩ = false := fun i => by simp [World.frozen?, r0]
   obtain ⟨b0, b1, b2, b3, b4, b5⟩ := row6 r0
   go_upto_region 11 with fail
   obtain ⟨r1, g1⟩ := set6 r0 (.int .i64 y.s0) (.int .i64 y.s1) (.int .i64 y.s2) (.slice y.ra y.rs.length y.rc) (.slice y.sa y.ss.length y.sc) (.slice y.wa y.ws.length y.wc)
   have hC5 : CAt w.heap.size T cc ow ((((((w4.setCell ⟨S, 0, none⟩ (.int .i64 y.s0)).setCell ⟨S, 1, none⟩ (.int .i64 y.s1)).setCell ⟨S, 2, none⟩ (.int .i64 y.s2)).setCell ⟨S, 3, none⟩ (.slice y.ra y.rs.length y.rc)).setCell ⟨S, 4, none⟩ (.slice y.sa y.ss.length y.sc)).setCell ⟨S, 5, none⟩ (.slice y.wa y.ws.length y.wc)) := hC4.keep g1.size fun j hj h0 => g1.block _ hj (by intro e; have e' := Option.some.inj e; exact h0 (by rw [e']; exact zS))
   have hD5 : DRow w.heap.size ow a8 n8 c8 D ((((((w4.setCell ⟨S, 0, none⟩ (.int .i64 y.s0)).setCell ⟨S, 1, none⟩ (.int .i64 y.s1)).setCell ⟨S, 2, none⟩ (.int .i64 y.s2)).setCell ⟨S, 3, none⟩ (.slice y.ra y.rs.length y.rc)).setCell ⟨S, 4, none⟩ (.slice y.sa y.ss.length y.sc)).setCell ⟨S, 5, none⟩ (.slice y.wa y.ws.length y.wc)) := ⟨row_kept hD4.own fun g e => g1.block g (hD4.own.lt g e).2 (by intro e'; exact hDS g e (Option.some.inj e')), hD4.len, hD4.free⟩
   have hb05 := hb04.trans (grown_below g1 hwS hb04.size)
   generalize ((((((w4.setCell ⟨S, 0, none⟩ (.int .i64 y.s0)).setCell ⟨S, 1, none⟩ (.int .i64 y.s1)).setCell ⟨S, 2, none⟩ (.int .i64 y.s2)).setCell ⟨S, 3, none⟩ (.slice y.ra y.rs.length y.rc)).setCell ⟨S, 4, none⟩ (.slice y.sa y.ss.length y.sc)).setCell ⟨S, 5, none⟩ (.slice y.wa y.ws.length y.wc)) = w5 at *
   clear g1 r0 b0 b1 b2 b3 b4 b5 f0 hC4 hD4 hb04
   have HCx := hid hC5; have HDx := hid hD5
   obtain ⟨ck, hck⟩ : ∃ k, K.SubV.check y = k := ⟨_, rfl⟩
   have HCK0 := hid hck
   have hlS : S < w5.heap.size := (Array.getElem?_eq_some_iff.1 r1).1
   have HSy := hid (sub_old HYA.out hb05 hC5 (Nat.le_refl _))
   have hmk : (cc.recs.length : Int) ≤ cc.keep := by have := HI.out.inv.few; simpa [CL.n] using this
   clear hck hC5 hD5
   obtain ⟨b0, b1, b2, b3, b4, b5⟩ := row6 r1
   by_cases hcd : codeD (CL.n cc) (SubV.n y) ck = 0
   ·have hk0 := chk_of_code hcd
    have D1 := hid (dec_in2 HCx.out HI.out HS.out HSy.out (HCK0.out.trans hk0) (by rw [hk0] at hcd; exact hcd) (n := (n8 : Int) + 1) (by rw [List.length_map, HDN.out]))
    clear hcd hk0 hmk
    go_wp2_with fail
    refine D1.out.mono ?_
    rintro e w7 ⟨rfl, cc', ow', out, m', hC7, hF7, hI7, hS7⟩
    have r1 := (hF7.block _ hlS zS).trans r1
    have hD7 := HDx.out.fr hF7
    have hb07 := hb05.trans (HCx.out.fr_below hF7)
    have eD : (D ++ [(⟨(n8 : Int) + 1, y, out⟩ : RecV)]).map RecV.n = D.map RecV.n ++ [⟨(n8 : Int) + 1, SubV.n y, out⟩] := by rw [List.map_append]; rfl
    have HI7 := hid (show Inv2 (CL.n cc') ((D ++ [(⟨(n8 : Int) + 1, y, out⟩ : RecV)]).map RecV.n) m' from by rw [eD]; exact hI7)
    have HS7 := hid (show Safe ((D ++ [(⟨(n8 : Int) + 1, y, out⟩ : RecV)]).map RecV.n) from by rw [eD]; exact hS7)
    clear b0 b1 b2 b3 b4 b5 D1 HCx HDx hb05 HSy hF7 hI7 hS7 hlS eD
    go_upto_region 12 with fail
    generalize hW8 : World.alloc w7 _ = w8
    have hb8 : Below w7.heap.size w7 w8 := by rw [← hW8]; exact below_auto
    have qV : w8.heap[w7.heap.size]? = some (.cells #[.int .i64 0, .int .i64 ((n8 : Int) + 1)] 41 (0, 0)) := by rw [← hW8]; exact heap_alloc_new w7 _
    obtain ⟨V, hV⟩ : ∃ V, V = w7.heap.size := ⟨_, rfl⟩
    rw [← hV] at qV ⊢
    have r1 := (hb8.block _ (Array.getElem?_eq_some_iff.1 r1).1).trans r1
    have HC8 := hid (hC7.below hb8)
    have HD8 := hid (hD7.below hb8)
    have hb08 := hb07.trans (hb8.mono hb07.size)
    clear hW8 hV hb8 hC7 hD7 hb07
    obtain ⟨b0, b1, b2, b3, b4, b5⟩ := row6 r1
    obtain ⟨v0, v1, -, -⟩ := row2 qV
    have hlS : S < w8.heap.size := (Array.getElem?_eq_some_iff.1 r1).1
    have hlV : V < w8.heap.size := (Array.getElem?_eq_some_iff.1 qV).1
    go_upto_region 13 with fail
    have hb9 : Below w8.heap.size w8 (w8.alloc (.cells (dEnc ⟨(n8 : Int) + 1, y, out⟩).toArray 37)) := by exact below_auto
    obtain ⟨a2, c2, w9, hr, hD9, hC9, hb89, hg9⟩ := app_dn ⟨(n8 : Int) + 1, y, out⟩ (HD8.out.below hb9) (HC8.out.below hb9) (by omega) w8.heap.size (fun j' u hj' => by
     rw [cell_of_row _ _ j' _ _ (0, 0) (heap_alloc_new w8 (.cells (dEnc ⟨(n8 : Int) + 1, y, out⟩).toArray 37))]
     rw [← hj']; simp)
    have HC9 := hid hC9; have HD9 := hid hD9
    have hb09 := (hb08.trans (hb9.mono hb08.size)).trans hb89
    clear hC9 hD9 hb89 hg9 hb9
    unfold dEnc at hr
    go_wp2_with (at_builtin; refine Lib.wpList_append_run _ rfl _ _ _ _ rfl _ _ rfl rfl _ _ (hr _) ?_)
    go_roundw
    case rel => exact ⟨k + 1, n8 + 1, c2, a2, cc', ow', _, m', rfl, by go_num, by omega, by omega, HD9, hid (fun d hd => by
     rcases List.mem_append.1 hd with hd | hd
     ·exact HDA.out d hd
     ·rw [List.mem_singleton.1 hd]; exact HYA.out), HC9, HI7, HS7, hb09⟩
    case measure => simp [intOf]; omega
   ·obtain ⟨cd, hcde⟩ : ∃ v, codeD (CL.n cc) (SubV.n y) ck = v := ⟨_, rfl⟩
    have D1 := hid (dec_no HCx.out hmk (x := y) ⟨rfl, rfl, rfl, rfl, rfl, rfl⟩ HSy.out (code := cd) (by rw [HCK0.out]; exact hcde) (by rw [← hcde]; exact hcd))
    have hcb : (cd == 0) = false := by rw [hcde] at hcd; simpa using hcd
    clear hcd hcde hmk
    go_wp2_with fail
    refine D1.out.mono ?_
    rintro e w7 ⟨rfl, ow', hC7, hF7⟩
    have HD7 := hid (HDx.out.fr hF7)
    have HC7 := hid hC7
    have hb07 := hb05.trans (HCx.out.fr_below hF7)
    have hz7 := hb07.size
    clear b0 b1 b2 b3 b4 b5 D1 HCx HDx hb05 HSy hF7 hC7 hlS
    go_wp2_with fail
    go_roundw
    case rel => exact ⟨k + 1, n8, c8, a8, cc, ow', D, m, rfl, by go_num, by omega, by omega, hid (HD7.out.below (by exact below_auto)), HDA, hid (HC7.out.below (by exact below_auto)), HI, HS, by exact below_auto⟩
    case measure => simp [intOf]; omega
  ·obtain rfl : k = L := by omega
   have hge : ¬ (k : Int) < (k : Int) := by omega
   have HNU := hid HI.out.inv.numsUp
   have HDN := hid HD.out.len
   have hwz := hbw.size
   clear HC HI
   have HBW := hid hbw
   obtain ⟨wo, rfl⟩ : ∃ x, x = wr := ⟨_, rfl⟩
   clear hbw
   go_upto_region 16 with fail
   go_loopw [62] (fun t62 wa => ∃ i : Nat, t62 = .int .i64 (i : Nat) ∧ i ≤ n8 ∧ Below wo.heap.size wo wa) (fun t62 _ => n8 - (intOf t62).toNat)
   case atStart => exact ⟨0, rfl, Nat.zero_le _, Below.refl _ _⟩
   case round =>
    obtain ⟨i, rfl, hi, hba⟩ := hrel
    have hza := hba.size
    by_cases hil : i < n8
    ·have hil' : (i : Int) < (n8 : Int) := by omega
     obtain ⟨da, hda⟩ : ∃ d, D[i]? = some d := ⟨_, List.getElem?_eq_getElem (by rw [HDN.out]; exact hil)⟩
     obtain ⟨gD, ha8, hgB, hgl, e0, e1, e2, e3, e4, e5, e6⟩ := (HD.out.below hba).get hil hda
     rw [ha8]
     have HMA := hid (List.mem_of_getElem? hda)
     clear hda
     go_upto_region 18 with fail
     generalize hWA : World.alloc wr _ = wA
     have hbA : Below wr.heap.size wr wA := by rw [← hWA]; exact below_auto
     have qA : wA.heap[wr.heap.size]? = some (.cells #[.int .i64 da.num, .int .i64 da.s.s0, .int .i64 da.s.s1, .int .i64 da.s.s2, .slice da.s.ra da.s.rs.length da.s.rc, .slice da.s.sa da.s.ss.length da.s.sc, .slice da.s.wa da.s.ws.length da.s.wc] 37 (0, 0)) := by rw [← hWA]; exact heap_alloc_new wr _
     obtain ⟨A, hA⟩ : ∃ x, x = wr.heap.size := ⟨_, rfl⟩
     rw [← hA] at qA ⊢
     have HbA := hid (hba.trans (hbA.mono hza))
     have hzA : A < wA.heap.size := (Array.getElem?_eq_some_iff.1 qA).1
     have hwA : w.heap.size ≤ wA.heap.size := by have := hbA.size; omega
     clear e0 e1 e2 e3 e4 e5 e6 hWA hgl hgB hba hza hA
     obtain ⟨wa, rfl⟩ : ∃ x, x = wr := ⟨_, rfl⟩
     go_upto_region 19 with fail
     go_loopw [68] (fun t68 wb => ∃ j : Nat, t68 = .int .i64 (j : Nat) ∧ j ≤ n8 ∧ Below wA.heap.size wA wb) (fun t68 _ => n8 - (intOf t68).toNat)
     case atStart => exact ⟨0, rfl, Nat.zero_le _, Below.refl _ _⟩
     case round =>
      obtain ⟨j, rfl, hj, hbb⟩ := hrel
      have hzb := hbb.size
      by_cases hjl : j < n8
      ·have hjl' : (j : Int) < (n8 : Int) := by omega
       obtain ⟨db, hdb⟩ : ∃ d, D[j]? = some d := ⟨_, List.getElem?_eq_getElem (by rw [HDN.out]; exact hjl)⟩
       obtain ⟨gD', ha8', hgB, hgl, e0, e1, e2, e3, e4, e5, e6⟩ := (HD.out.below (HbA.out.trans (hbb.mono HbA.out.size))).get hjl hdb
       obtain rfl : gD = gD' := by rw [ha8] at ha8'; cases ha8'; rfl
       have HMB := hid (List.mem_of_getElem? hdb)
       clear hdb ha8'
       go_upto_region 21 with fail
       generalize hWB : World.alloc wr _ = wB
       have hbB : Below wr.heap.size wr wB := by rw [← hWB]; exact below_auto
       have qB : wB.heap[wr.heap.size]? = some (.cells #[.int .i64 db.num, .int .i64 db.s.s0, .int .i64 db.s.s1, .int .i64 db.s.s2, .slice db.s.ra db.s.rs.length db.s.rc, .slice db.s.sa db.s.ss.length db.s.sc, .slice db.s.wa db.s.ws.length db.s.wc] 37 (0, 0)) := by rw [← hWB]; exact heap_alloc_new wr _
       obtain ⟨Bx, hBx⟩ : ∃ x, x = wr.heap.size := ⟨_, rfl⟩
       rw [← hBx] at qB ⊢
       have qA2 := (hbB.block _ (by omega)).trans ((hbb.block _ hzA).trans qA)
       have HbB := hid (hbb.trans (hbB.mono hzb))
       have hzB : Bx < wB.heap.size := (Array.getElem?_eq_some_iff.1 qB).1
       have hzAB : A < wB.heap.size := (Array.getElem?_eq_some_iff.1 qA2).1
       have HBW2 := hid fun W (hb : Below wB.heap.size wB W) => (HBW.out.trans ((HbA.out.trans (HbB.out.mono HbA.out.size)).mono HBW.out.size)).trans (hb.mono (Nat.le_trans hwA HbB.out.size))
       clear e0 e1 e2 e3 e4 e5 e6 hWB hgl hgB hbb hzb hBx
       obtain ⟨a0, a1, a2, a3, a4, a5, a6⟩ := row7 qA2
       obtain ⟨b0, b1, b2, b3, b4, b5, b6⟩ := row7 qB
       obtain ⟨nv, hnv⟩ : ∃ v, nearV da db = v := ⟨_, rfl⟩
       have HNV := hid hnv
       clear hnv
       cases nv
       ·go_wp2_with (go_at_call 19; (with_reducible refine (near_any da db false _ HNV.out).mono ?_); rintro e w1 ⟨rfl, hb1⟩; refine mB hb1 ?_; intro hc1 hf1 hz1; intros)
        go_roundw
        case rel => exact ⟨j + 1, by go_num, by omega, HbB.out.trans (hb1.mono HbB.out.size)⟩
        case measure => simp [intOf]; omega
       ·go_upto_region 22 with (go_at_call 19; (with_reducible refine (near_any da db true _ HNV.out).mono ?_); rintro e w1 ⟨rfl, hb1⟩; refine mB hb1 ?_; intro hc1 hf1 hz1; intros)
        have qA3 := (hb1.block _ hzAB).trans qA2
        have qB3 := (hb1.block _ hzB).trans qB
        have HB1 := hid hb1
        clear a0 a1 a2 a3 a4 a5 a6 b0 b1 b2 b3 b4 b5 b6 qA2 qB hc1 hf1 hz1 hb1
        obtain ⟨a0, a1, a2, a3, a4, a5, a6⟩ := row7 qA3
        have hzA3 : A < w1.heap.size := (Array.getElem?_eq_some_iff.1 qA3).1
        have hzB3 : Bx < w1.heap.size := (Array.getElem?_eq_some_iff.1 qB3).1
        have HWt := hid (fat_get (HDA.out da HMA.out).w)
        have hmw := (HDA.out da HMA.out).w.len
        unfold maxLen at hmw
        have HRW := hid fun W (hb : Below w1.heap.size w1 W) key => (show Calls Tryz.prog 20 #[.agg #[.int .i64 db.s.s0, .int .i64 db.s.s1, .int .i64 db.s.s2, .slice db.s.ra db.s.rs.length db.s.rc, .slice db.s.sa db.s.ss.length db.s.sc, .slice db.s.wa db.s.ws.length db.s.wc], .float .f64 key] W (Ret (.bool (db.s.writes key)) W) from refWrites_any db.s key W ((HDA.out db HMB.out).below (HBW2.out W (HB1.out.trans (hb.mono HB1.out.size)))))
        have HM1 := hid fun W (hb : Below w1.heap.size w1 W) => (show Calls Tryz.prog 21 #[.agg #[.int .i64 da.s.s0, .int .i64 da.s.s1, .int .i64 da.s.s2, .slice da.s.ra da.s.rs.length da.s.rc, .slice da.s.sa da.s.ss.length da.s.sc, .slice da.s.wa da.s.ws.length da.s.wc], .agg #[.int .i64 db.s.s0, .int .i64 db.s.s1, .int .i64 db.s.s2, .slice db.s.ra db.s.rs.length db.s.rc, .slice db.s.sa db.s.ss.length db.s.sc, .slice db.s.wa db.s.ws.length db.s.wc]] W (Ret (.bool (da.s.meets db.s)) W) from refMeets04_any da.s db.s W ((HDA.out da HMA.out).below (HBW2.out W (HB1.out.trans (hb.mono HB1.out.size)))) ((HDA.out db HMB.out).below (HBW2.out W (HB1.out.trans (hb.mono HB1.out.size)))))
        obtain ⟨wn, hwn⟩ : ∃ x, x = da.s.ws.length := ⟨_, rfl⟩
        have HWN := hid hwn
        rw [← hwn] at hmw a6
        clear hwn
        go_upto_region 23 with fail
        go_loopw [80] (fun t80 wk => ∃ l : Nat, t80 = .int .i64 (l : Nat) ∧ l ≤ wn ∧ Below w1.heap.size w1 wk) (fun t80 _ => wn - (intOf t80).toNat)
        case atStart => exact ⟨0, rfl, Nat.zero_le _, Below.refl _ _⟩
        case round =>
         clear a0 a1 a2 a3 a4 a5 a6
         obtain ⟨l, rfl, hl, hbk⟩ := hrel
         have r0 := (hbk.block _ hzA3).trans qA3
         have r1 := (hbk.block _ hzB3).trans qB3
         obtain ⟨a0, a1, a2, a3, a4, a5, a6⟩ := row7 r0
         obtain ⟨b0, b1, b2, b3, b4, b5, b6⟩ := row7 r1
         have hzk := hbk.size
         have hlA : A < wr.heap.size := (Array.getElem?_eq_some_iff.1 r0).1
         have hlB : Bx < wr.heap.size := (Array.getElem?_eq_some_iff.1 r1).1
         by_cases hll : l < wn
         ·have hll' : (l : Int) < (wn : Int) := by omega
          obtain ⟨g, o, hwa, hg, c0, _⟩ := HWt.out l (by rw [← HWN.out]; exact hll)
          have HKM := hid (fl_some (xs := da.s.ws) (k := l) (by rw [← HWN.out]; exact hll))
          have cc := ((HBW2.out _ (HB1.out.trans (hbk.mono HB1.out.size))).cell (p := ⟨g, _, none⟩) hg).trans c0
          generalize da.s.ws[l]?.getD 0 = key at *
          have H1 := fun W hb => HRW.out W hb key
          rw [safeD_write HS.out HNU.out HMA.out HMB.out HNV.out (List.mem_of_getElem? HKM.out)] at H1
          rw [hwa]
          clear c0 hg
          go_wp2_with (go_at_call 20; (with_reducible refine (H1 _ (by exact below_auto)).mono ?_); rintro e w2 ⟨rfl, hb2⟩; refine mB hb2 ?_; intro hc2 hf2 hz2; intros)
          go_roundw
          case rel => exact ⟨l + 1, by go_num, by omega, by exact below_auto⟩
          case measure => simp [intOf]; omega
         ·obtain rfl : l = wn := by omega
          have hge2 : ¬ (l : Int) < (l : Int) := by omega
          have HMv := HM1.out
          obtain ⟨mv, hmv⟩ : ∃ v, da.s.meets db.s = v := ⟨_, rfl⟩
          have HMV := hid hmv
          rw [hmv] at HMv
          clear hmv
          cases mv
          ·go_wp2_with (go_at_call 21; (with_reducible refine (HMv _ (by exact below_auto)).mono ?_); rintro e w2 ⟨rfl, hb2⟩; refine mB hb2 ?_; intro hc2 hf2 hz2; intros)
           go_roundw
           case rel => exact ⟨j + 1, by go_num, by omega, HbB.out.trans ((HB1.out.trans ((hbk.trans (hb2.mono hzk)).mono HB1.out.size)).mono HbB.out.size)⟩
           case measure => simp [intOf]; omega
          ·go_upto_region 30 with (go_at_call 21; (with_reducible refine (HMv _ (by exact below_auto)).mono ?_); rintro e w2 ⟨rfl, hb2⟩; refine mB hb2 ?_; intro hc2 hf2 hz2; intros)
           have q0 := (hb2.block _ hlA).trans r0
           have q1 := (hb2.block _ hlB).trans r1
           have HB2 := hid (HB1.out.trans ((hbk.trans (hb2.mono hzk)).mono HB1.out.size))
           clear a0 a1 a2 a3 a4 a5 a6 b0 b1 b2 b3 b4 b5 b6 hb2 hc2 hf2 hz2 r0 r1 hbk hlA hlB hzk HMv
           have hlA : A < w2.heap.size := (Array.getElem?_eq_some_iff.1 q0).1
           have hlB : Bx < w2.heap.size := (Array.getElem?_eq_some_iff.1 q1).1
           go_loopw [97] (fun t97 wd => ∃ h : Nat, t97 = .int .i64 (h : Nat) ∧ h ≤ n8 ∧ Below w2.heap.size w2 wd) (fun t97 _ => n8 - (intOf t97).toNat)
           case atStart => exact ⟨0, rfl, Nat.zero_le _, Below.refl _ _⟩
           case round =>
            obtain ⟨h, rfl, hh, hbd⟩ := hrel
            have hzd := hbd.size
            by_cases hhl : h < n8
            ·have hhl' : (h : Int) < (n8 : Int) := by omega
             obtain ⟨dd, hdd⟩ : ∃ d, D[h]? = some d := ⟨_, List.getElem?_eq_getElem (by rw [HDN.out]; exact hhl)⟩
             have hbO : Below wo.heap.size wo wr := HbA.out.trans ((HbB.out.trans ((HB2.out.trans (hbd.mono HB2.out.size)).mono HbB.out.size)).mono HbA.out.size)
             obtain ⟨gD', ha8', hgB, hgl, e0, e1, e2, e3, e4, e5, e6⟩ := (HD.out.below hbO).get hhl hdd
             obtain rfl : gD = gD' := by rw [ha8] at ha8'; cases ha8'; rfl
             have HMD := hid (List.mem_of_getElem? hdd)
             clear hdd ha8'
             go_upto_region 32 with fail
             generalize hWD : World.alloc wr _ = w3
             have hbD : Below wr.heap.size wr w3 := by rw [← hWD]; exact below_auto
             have qD : w3.heap[wr.heap.size]? = some (.cells #[.int .i64 dd.num, .int .i64 dd.s.s0, .int .i64 dd.s.s1, .int .i64 dd.s.s2, .slice dd.s.ra dd.s.rs.length dd.s.rc, .slice dd.s.sa dd.s.ss.length dd.s.sc, .slice dd.s.wa dd.s.ws.length dd.s.wc] 37 (0, 0)) := by rw [← hWD]; exact heap_alloc_new wr _
             obtain ⟨Dx, hDx⟩ : ∃ x, x = wr.heap.size := ⟨_, rfl⟩
             rw [← hDx] at qD ⊢
             have qA4 := (hbD.block _ (by omega)).trans ((hbd.block _ hlA).trans q0)
             have qB4 := (hbD.block _ (by omega)).trans ((hbd.block _ hlB).trans q1)
             have HB3 := hid (hbd.trans (hbD.mono hzd))
             have hA3 : A < w3.heap.size := (Array.getElem?_eq_some_iff.1 qA4).1
             have hB3 : Bx < w3.heap.size := (Array.getElem?_eq_some_iff.1 qB4).1
             have hD3 : Dx < w3.heap.size := (Array.getElem?_eq_some_iff.1 qD).1
             have hz3 : w2.heap.size ≤ w3.heap.size := HB3.out.size
             have HMd := fun W (hb : Below w3.heap.size w3 W) => (show Calls Tryz.prog 21 #[.agg #[.int .i64 db.s.s0, .int .i64 db.s.s1, .int .i64 db.s.s2, .slice db.s.ra db.s.rs.length db.s.rc, .slice db.s.sa db.s.ss.length db.s.sc, .slice db.s.wa db.s.ws.length db.s.wc], .agg #[.int .i64 dd.s.s0, .int .i64 dd.s.s1, .int .i64 dd.s.s2, .slice dd.s.ra dd.s.rs.length dd.s.rc, .slice dd.s.sa dd.s.ss.length dd.s.sc, .slice dd.s.wa dd.s.ws.length dd.s.wc]] W (Ret (.bool (db.s.meets dd.s)) W) from refMeets04_any db.s dd.s W ((HDA.out db HMB.out).below (HBW2.out W (HB2.out.trans ((HB3.out.trans (hb.mono HB3.out.size)).mono HB2.out.size)))) ((HDA.out dd HMD.out).below (HBW2.out W (HB2.out.trans ((HB3.out.trans (hb.mono HB3.out.size)).mono HB2.out.size)))))
             clear e0 e1 e2 e3 e4 e5 e6 hWD hgl hgB hbd hzd hDx hbO hbD
             obtain ⟨a0, a1, a2, a3, a4, a5, a6⟩ := row7 qA4
             obtain ⟨b0, b1, b2, b3, b4, b5, b6⟩ := row7 qB4
             obtain ⟨d0, d1, d2, d3, d4, d5, d6⟩ := row7 qD
             have HNV0 := HNV
             clear HNV
             have hR : Below w2.heap.size w2 w3 := HB3.out
             obtain ⟨nv, hnv⟩ : ∃ v, nearV db dd = v := ⟨_, rfl⟩
             have HNV := hid hnv
             obtain ⟨m2, hm2⟩ : ∃ v, db.s.meets dd.s = v := ⟨_, rfl⟩
             have HM2 := hid hm2
             rw [hm2] at HMd
             clear hnv hm2
             cases nv
             ·by_cases he : dd.num = da.num
              ·have heb : (dd.num == da.num) = true := by simpa using he
               have HEB := hid he
               clear he
               cases m2
               ·go_wp2_with (first | ((go_at_call 19; (with_reducible refine (near_any db dd false _ HNV.out).mono ?_); rintro e w4 ⟨rfl, hb4⟩; refine mB hb4 ?_; intro hc4 hf4 hz4; intros); have hA4 : A < w4.heap.size := (by omega); have hB4 : Bx < w4.heap.size := (by omega); have hD4 : Dx < w4.heap.size := (by omega)) | (go_at_call 21; (with_reducible refine (HMd _ (by clear hR; exact below_auto)).mono ?_); rintro e w5 ⟨rfl, hb5⟩; refine mB hb5 ?_; intro hc5 hf5 hz5; intros))
                go_roundw
                case rel => exact ⟨h + 1, by go_num, by omega, hR.trans (Below.mono (by clear hR; exact below_auto) hz3)⟩
                case measure => simp [intOf]; omega
               ·by_cases h1 : dd.num ≤ da.num
                ·by_cases h2 : dd.num < db.num
                 ·exact (safeD_three HS.out HNU.out HMA.out HMB.out HMD.out HNV0.out HMV.out (.inr HEB.out) HM2.out h1 h2).elim
                 ·go_wp2_with (first | ((go_at_call 19; (with_reducible refine (near_any db dd false _ HNV.out).mono ?_); rintro e w4 ⟨rfl, hb4⟩; refine mB hb4 ?_; intro hc4 hf4 hz4; intros); have hA4 : A < w4.heap.size := (by omega); have hB4 : Bx < w4.heap.size := (by omega); have hD4 : Dx < w4.heap.size := (by omega)) | (go_at_call 21; (with_reducible refine (HMd _ (by clear hR; exact below_auto)).mono ?_); rintro e w5 ⟨rfl, hb5⟩; refine mB hb5 ?_; intro hc5 hf5 hz5; intros))
                  go_roundw
                  case rel => exact ⟨h + 1, by go_num, by omega, hR.trans (Below.mono (by clear hR; exact below_auto) hz3)⟩
                  case measure => simp [intOf]; omega
                ·go_wp2_with (first | ((go_at_call 19; (with_reducible refine (near_any db dd false _ HNV.out).mono ?_); rintro e w4 ⟨rfl, hb4⟩; refine mB hb4 ?_; intro hc4 hf4 hz4; intros); have hA4 : A < w4.heap.size := (by omega); have hB4 : Bx < w4.heap.size := (by omega); have hD4 : Dx < w4.heap.size := (by omega)) | (go_at_call 21; (with_reducible refine (HMd _ (by clear hR; exact below_auto)).mono ?_); rintro e w5 ⟨rfl, hb5⟩; refine mB hb5 ?_; intro hc5 hf5 hz5; intros))
                 go_roundw
                 case rel => exact ⟨h + 1, by go_num, by omega, hR.trans (Below.mono (by clear hR; exact below_auto) hz3)⟩
                 case measure => simp [intOf]; omega
              ·have heb : (dd.num == da.num) = false := by simpa using he
               clear he
               go_wp2_with (go_at_call 19; (with_reducible refine (near_any db dd false _ HNV.out).mono ?_); rintro e w4 ⟨rfl, hb4⟩; refine mB hb4 ?_; intro hc4 hf4 hz4; intros)
               go_roundw
               case rel => exact ⟨h + 1, by go_num, by omega, hR.trans (Below.mono (by clear hR; exact below_auto) hz3)⟩
               case measure => simp [intOf]; omega
             ·cases m2
              ·go_wp2_with (first | ((go_at_call 19; (with_reducible refine (near_any db dd true _ HNV.out).mono ?_); rintro e w4 ⟨rfl, hb4⟩; refine mB hb4 ?_; intro hc4 hf4 hz4; intros); have hA4 : A < w4.heap.size := (by omega); have hB4 : Bx < w4.heap.size := (by omega); have hD4 : Dx < w4.heap.size := (by omega)) | (go_at_call 21; (with_reducible refine (HMd _ (by clear hR; exact below_auto)).mono ?_); rintro e w5 ⟨rfl, hb5⟩; refine mB hb5 ?_; intro hc5 hf5 hz5; intros))
               go_roundw
               case rel => exact ⟨h + 1, by go_num, by omega, hR.trans (Below.mono (by clear hR; exact below_auto) hz3)⟩
               case measure => simp [intOf]; omega
              ·by_cases h1 : dd.num ≤ da.num
               ·by_cases h2 : dd.num < db.num
                ·exact (safeD_three HS.out HNU.out HMA.out HMB.out HMD.out HNV0.out HMV.out (.inl HNV.out) HM2.out h1 h2).elim
                ·go_wp2_with (first | ((go_at_call 19; (with_reducible refine (near_any db dd true _ HNV.out).mono ?_); rintro e w4 ⟨rfl, hb4⟩; refine mB hb4 ?_; intro hc4 hf4 hz4; intros); have hA4 : A < w4.heap.size := (by omega); have hB4 : Bx < w4.heap.size := (by omega); have hD4 : Dx < w4.heap.size := (by omega)) | (go_at_call 21; (with_reducible refine (HMd _ (by clear hR; exact below_auto)).mono ?_); rintro e w5 ⟨rfl, hb5⟩; refine mB hb5 ?_; intro hc5 hf5 hz5; intros))
                 go_roundw
                 case rel => exact ⟨h + 1, by go_num, by omega, hR.trans (Below.mono (by clear hR; exact below_auto) hz3)⟩
                 case measure => simp [intOf]; omega
               ·go_wp2_with (first | ((go_at_call 19; (with_reducible refine (near_any db dd true _ HNV.out).mono ?_); rintro e w4 ⟨rfl, hb4⟩; refine mB hb4 ?_; intro hc4 hf4 hz4; intros); have hA4 : A < w4.heap.size := (by omega); have hB4 : Bx < w4.heap.size := (by omega); have hD4 : Dx < w4.heap.size := (by omega)) | (go_at_call 21; (with_reducible refine (HMd _ (by clear hR; exact below_auto)).mono ?_); rintro e w5 ⟨rfl, hb5⟩; refine mB hb5 ?_; intro hc5 hf5 hz5; intros))
                go_roundw
                case rel => exact ⟨h + 1, by go_num, by omega, hR.trans (Below.mono (by clear hR; exact below_auto) hz3)⟩
                case measure => simp [intOf]; omega
            ·obtain rfl : h = n8 := by omega
             have hge3 : ¬ (h : Int) < (h : Int) := by omega
             go_wp2_with fail
             go_roundw
             case rel => exact ⟨j + 1, by go_num, by omega, HbB.out.trans ((HB2.out.trans (hbd.mono HB2.out.size)).mono HbB.out.size)⟩
             case measure => simp [intOf]; omega
      ·obtain rfl : j = n8 := by omega
       have hge2 : ¬ (j : Int) < (j : Int) := by omega
       go_wp2_with fail
       go_roundw
       case rel => exact ⟨i + 1, by go_num, by omega, HbA.out.trans (hbb.mono HbA.out.size)⟩
       case measure => simp [intOf]; omega
    ·obtain rfl : i = n8 := by omega
     have hge1 : ¬ (i : Int) < (i : Int) := by omega
     go_wp2_with fail
     go_ret
     exact ⟨rfl, HBW.out.trans (hba.mono HBW.out.size)⟩
end Go.Proofs.YtfbachckdadhoaaGreat.C
