/- The walk of CertAges. -/
import Derived.Test.YtfbachckdadhoaaGreatBYB
import Derived.Test.YtfbachckdadhoaaGreatCZ0
import Derived.Test.YtfbachckdadhoaaGreatMPE
namespace Go.Proofs.YtfbachckdadhoaaGreat.C
set_option linter.unusedVariables false
open Go.RowKit Fl
open Go.Proofs.YtfbachckdadhoaaGreat.P (bCells BAt)
set_option linter.unusedSimpArgs false

def Rights (ds : List RecV) : Prop := ∀ r ∈ ds, K.SubV.check r.s = 0
theorem Rights.nil : Rights [] := fun _ h => by cases h
theorem Rights.snoc {ds : List RecV} (h : Rights ds) {r : RecV} (hr : K.SubV.check r.s = 0) : Rights (ds ++ [r]) := fun q hq => by
 rcases List.mem_append.1 hq with h1 | h1
 ·exact h q h1
 ·rw [List.mem_singleton.1 h1]; exact hr
structure DecB (B T : Nat) (c : CL) (ow : Nat → Nat) (x : SubV) (w : World) (code num : Int) (c' : CL) (ow' : Nat → Nat) (ds' : List RecV) (m' : Nat) (w' : World) : Prop where
 at_ : CAt B T c' ow' w'
 fr : Fr ow ow' w w'
 inv : Inv (CL.n c') ds' m'
 rts : Rights ds'
 keep : c'.keep = c.keep
 hz : c.horizon ≤ c'.horizon
 yes : code = 0 → c'.count = c.count + 1 ∧ num = c.count + 1
 no : code ≠ 0 → c' = c ∧ num = 0
 code_ : codeD (CL.n c) (SubV.n x) (K.SubV.check x) = code
theorem dec_both {B T : Nat} {c : CL} {ow : Nat → Nat} {w : World} (h : CAt B T c ow w) {ds : List RecV} {m : Nat} (hI : Inv (CL.n c) ds m) (hr : Rights ds) {x : SubV} (hx : SubL (fun k => ow k = 0) x w) :
  Calls Tryz.prog 18 #[.pointer (some ⟨T, 0, none⟩), .agg #[.int .i64 x.s0, .int .i64 x.s1, .int .i64 x.s2, .slice x.ra x.rs.length x.rc, .slice x.sa x.ss.length x.sc, .slice x.wa x.ws.length x.wc]] w fun e w' => ∃ (code num : Int) (c' : CL) (ow' : Nat → Nat) (ds' : List RecV) (m' : Nat), e = .returned (.agg #[.int .i64 code, .int .i64 num]) ∧ DecB B T c ow x w code num c' ow' ds' m' w' := by
 have hmk : (c.recs.length : Int) ≤ c.keep := by have := hI.few; simpa [CL.n] using this
 by_cases hcd : codeD (CL.n c) (SubV.n x) (K.SubV.check x) = 0
 ·have hk0 := chk_of_code hcd
  refine (dec_ok h hmk ⟨rfl, rfl, rfl, rfl, rfl, rfl⟩ hx hk0 (by rw [hk0] at hcd; exact hcd) rfl).mono ?_
  rintro e w' ⟨rfl, c', ow', h1, h2, h3⟩
  obtain ⟨m', h4, h5, _, h6, h7, h8, _⟩ := hI.commit (SubV.n x) (decide (0 < (lookD (CL.n c) (SubV.n x)).least))
  rw [← h3] at h4 h6 h7 h8
  exact ⟨0, _, c', ow', _, m', rfl, h1, h2, h4, hr.snoc hk0, h8, h6, fun _ => ⟨h7, rfl⟩, fun h0 => absurd rfl h0, hcd⟩
 ·refine (dec_no h hmk (x := x) ⟨rfl, rfl, rfl, rfl, rfl, rfl⟩ hx rfl hcd).mono ?_
  rintro e w' ⟨rfl, ow', h1, h2⟩
  exact ⟨_, 0, c, ow', ds, m, rfl, h1, h2, hI, hr, rfl, Int.le_refl _, fun h0 => absurd h0 hcd, fun _ => ⟨rfl, rfl⟩, rfl⟩
theorem Inv.bytes {B T : Nat} {c : CL} {ow : Nat → Nat} {w : World} (h : CAt B T c ow w) {ds : List RecV} {m : Nat} (hI : Inv (CL.n c) ds m) (hr : Rights ds) : Calls Tryz.prog 27 #[.pointer (some ⟨T, 0, none⟩)] w (BytesRet c w) := by
 have hc := h.cnt
 have key : ∀ {f : SubV → List Nat} {its : List ItV}, TbF ds f its → ∀ x ∈ its, 0 ≤ x.n ∧ x.n ≤ 1099511627776 := fun t x hx => by
  have h1 := t.ps x hx
  obtain ⟨r, h2, h3, _⟩ := t.fr x hx
  have h4 := (hI.num h2).2
  have h5 : (CL.n c).count = c.count := rfl
  omega
 refine bytes_any h (fun r hr' => ?_) (fun x hx => ?_) fun x hx => ?_
 ·have h1 : RecV.n r ∈ (CL.n c).recs := List.mem_map_of_mem hr'
  rw [hI.recs] at h1
  exact hr (RecV.n r) (List.mem_of_mem_drop h1)
 ·rcases List.mem_append.1 hx with hx | hx
  ·rcases List.mem_append.1 hx with hx | hx
   ·exact key hI.tabs.h1 x hx
   ·exact key hI.tabs.h2 x hx
  ·exact key hI.tabs.h3 x hx
 ·have h1 := hI.tabs.h4.ps x hx
  obtain ⟨r, h2, h3, _⟩ := hI.tabs.h4.fr x hx
  have h4 := (hI.num h2).2
  have h5 : (CL.n c).count = c.count := rfl
  omega
theorem bytesC_lt (c : CL) : ∀ b ∈ bytesC c, b < 256 := by
 have hn : ∀ n, ∀ b ∈ P.numB n, b < 256 := fun n b hb => P.vlq_byte _ b hb
 have hk : ∀ u, ∀ b ∈ P.keyB u, b < 256 := fun u c hc => by
  unfold P.keyB at hc
  simp only [List.mem_cons, List.not_mem_nil, or_false] at hc
  rcases hc with rfl | rfl | rfl | rfl | rfl | rfl | rfl | rfl <;> exact Nat.mod_lt _ (by decide)
 have hr : ∀ r, ∀ b ∈ recB r, b < 256 := fun r b hb => by
  unfold recB at hb
  rcases List.mem_cons.1 hb with rfl | hb
  ·split <;> decide
  ·rcases List.mem_append.1 hb with hb | hb
   ·exact hn _ b hb
   ·exact P.encO_byte _ b hb
 have hi : ∀ its, ∀ b ∈ itsB its, b < 256 := fun its b hb => by
  unfold itsB at hb
  rcases List.mem_append.1 hb with hb | hb
  ·exact hn _ b hb
  ·obtain ⟨x, _, hb⟩ := List.mem_flatMap.1 hb
   unfold itB at hb
   rcases List.mem_append.1 hb with hb | hb
   ·exact hk _ b hb
   ·exact hn _ b hb
 intro b hb
 unfold bytesC headB at hb
 simp only [List.mem_append] at hb
 rcases hb with (((((hb | hb) | hb) | hb) | hb) | hb) | hb
 ·rcases hb with hb | hb
  ·exact hn _ b hb
  ·exact hn _ b hb
 ·exact hn _ b hb
 ·obtain ⟨x, _, hb⟩ := List.mem_flatMap.1 hb
  exact hr x b hb
 ·exact hi _ b hb
 ·exact hi _ b hb
 ·exact hi _ b hb
 ·unfold itqsB at hb
  rcases List.mem_append.1 hb with hb | hb
  ·exact hn _ b hb
  ·obtain ⟨x, _, hb⟩ := List.mem_flatMap.1 hb
   unfold itqB at hb
   simp only [List.mem_append] at hb
   rcases hb with (hb | hb) | hb
   ·exact hk _ b hb
   ·exact hk _ b hb
   ·exact hn _ b hb
theorem own_bat2 {w : World} {base n : Nat} {a : Option Addr} {c : Nat} {xs : List Nat} (hn : xs.length = n) (h : w.ownsRow base 5 1 (.slice a n c) n (bCells xs)) (hlt : ∀ x ∈ xs, x < 256) : BAt w a xs := by
 have hl : n ≤ maxLen := by
  rcases h.2 with ⟨_, h2⟩ | ⟨g, cap, cur, h1, _, _, h3, h4, _⟩
  ·rw [h2]; exact Nat.zero_le _
  ·exact Nat.le_trans h3 h4
 refine ⟨?_, hlt, by rw [hn]; exact hl⟩
 rcases h.2 with ⟨_, h2⟩ | ⟨g, cap, cur, h1, _⟩
 ·exact .inl (List.eq_nil_of_length_eq_zero (by omega))
 ·cases h1
  refine .inr ⟨g, 0, rfl, (h.lt g rfl).2, fun i hi => ?_⟩
  have := h.cells (g := g) rfl i (.int .u8 (xs[i]?.getD 0 : Nat)) (by unfold bCells; rw [List.getElem?_map, List.getElem?_eq_getElem hi]; simp)
  rw [K.addr0] at this
  rw [Nat.zero_add]; exact this
theorem code_young {c : CL} {x : SubV} (h1 : c.count ≠ 1099511627776) (h2 : c.count < x.s2) : codeD c x 0 = 113 := by
 unfold codeD
 rw [if_neg (by simp), if_neg h1, if_pos h2]
theorem code_old {c : CL} {x : SubV} (h1 : c.count ≠ 1099511627776) (h2 : ¬ c.count < x.s2) (h3 : x.s2 < c.horizon) : codeD c x 0 = 110 := by
 unfold codeD
 rw [if_neg (by simp), if_neg h1, if_neg h2, if_pos h3]
set_option maxHeartbeats 8000000 in
set_option maxRecDepth 100000 in
theorem certAges_walk (keep old : Int) (a : Option Addr) (cp : Nat) (xs : List SubV) (w : World) (hk : -9223372036854775808 ≤ keep ∧ keep ≤ 9223372036854775807) (ho : -9223372036854775808 ≤ old ∧ old ≤ 9223372036854775807) (hx : SqAt w a xs) (hlen : xs.length ≤ 1048576) (_hc : xs.length ≤ cp) :
  Calls Tryz.prog 8 #[.int .i64 keep, .int .i64 old, .slice a xs.length cp] w (Ret (.bool true) w) := by
 have HX := hid hx
 obtain ⟨n, hn⟩ : ∃ n, n = xs.length := ⟨_, rfl⟩
 have HN := hid hn
 rw [← hn] at hlen ⊢
 clear hx hn
 have HNew := hid (new_any keep old w ho)
 have HKP := hid hk
 clear ho hk
 go_enter Tryz.func8, Tryz.ntmps8
 go_wp2_with fail
 refine HNew.out.mono ?_
 rintro e w1 ⟨T, p1, p2, p3, p4, ow, rfl, hC1, hb1⟩
 clear HNew
 go_wp2_with fail
 refine (alive11_any w1).mono ?_
 rintro e w2 ⟨rfl, hb2⟩
 have HC2 := hid (hC1.below hb2)
 have hb02 := hb1.trans (hb2.mono hb1.size)
 clear hC1 hb1 hb2
 have HI0 := hid (Inv.new (min (max keep 1) 32) old (by omega) p1 p2 p3 p4)
 go_upto_region 5 with fail
 go_loopw [27] (fun t27 wr => ∃ (k : Nat) (cc : CL) (ow : Nat → Nat) (ds : List RecV) (m : Nat), t27 = .int .i64 (k : Nat) ∧ k ≤ n ∧ Hid (ds.length ≤ k) ∧ Hid (cc.keep = min (max keep 1) 32) ∧ Hid (CAt w.heap.size T cc ow wr) ∧ Hid (Inv (CL.n cc) ds m) ∧ Hid (Rights ds) ∧ Below w.heap.size w wr) (fun t27 _ => n - (intOf t27).toNat)
 case atStart => exact ⟨0, _, ow, [], 0, rfl, Nat.zero_le _, hid (Nat.le_refl _), hid rfl, HC2, HI0, hid Rights.nil, hb02⟩
 case round =>
  obtain ⟨k, cc, ow, ds, m, rfl, hk, HDL, HKE, HC, HI, HR, hbw⟩ := hrel
  clear HC2 HI0 hb02 w2
  by_cases hlt : k < n
  ·have hlt' : (k : Int) < (n : Int) := by omega
   obtain ⟨g, o, rfl, hg, hxa, c0, c1, c2, c3, c4, c5⟩ := (HX.out.below hbw).get (k := k) (by rw [← HN.out]; exact hlt)
   have HA := hid (HX.out.sub k (by rw [← HN.out]; exact hlt))
   generalize xs[k]?.getD noSub = x at *
   clear hxa
   go_upto_region 7 with fail
   generalize hW3 : World.alloc wr _ = w3
   have hb3 : Below wr.heap.size wr w3 := by rw [← hW3]; exact below_auto
   have q0 : w3.heap[wr.heap.size]? = some (.cells #[.int .i64 x.s0, .int .i64 x.s1, .int .i64 x.s2, .slice x.ra x.rs.length x.rc, .slice x.sa x.ss.length x.sc, .slice x.wa x.ws.length x.wc] 32 (0, 0)) := by rw [← hW3]; exact heap_alloc_new wr _
   obtain ⟨S, hS⟩ : ∃ S, S = wr.heap.size := ⟨_, rfl⟩
   have zS : ow S = 0 := Classical.byContradiction fun h0 => by have := (HC.out.low S h0).2; omega
   have hC3 := HC.out.below hb3
   have hwS : w.heap.size ≤ S := by rw [hS]; exact hbw.size
   have hb03 := hbw.trans (hb3.mono hbw.size)
   rw [← hS] at q0 ⊢
   clear c0 c1 c2 c3 c4 c5 hW3 hb3 hS
   obtain ⟨b0, b1, b2, b3, b4, b5⟩ := row6 q0
   have f0 : ∀ i, w3.frozen? ⟨S, i, none⟩ = false := fun i => by simp [World.frozen?, q0]
   have hlS : S < w3.heap.size := (Array.getElem?_eq_some_iff.1 q0).1
   obtain ⟨cnt, hcnt⟩ : ∃ v, v = cc.count := ⟨_, rfl⟩
   have hcb : 0 ≤ cnt ∧ cnt ≤ 1099511627776 := by have := HC.out.cnt; omega
   obtain ⟨y, hy⟩ : ∃ y, snapV x cnt = y := ⟨_, rfl⟩
   have HYA := hid (show y.At w from by rw [← hy]; exact snapV_at HA.out cnt)
   have HCt := hid fun W (hb : Below w3.heap.size w3 W) => (show Calls Tryz.prog 14 #[.pointer (some ⟨T, 0, none⟩)] W (Ret (.int .i64 cnt) W) from by have := count_any (hC3.below hb); rw [← hcnt] at this; exact this)
   have HSn := hid fun W => snap11_any x y cnt W hcb hy
   have HC3 := hid hC3
   have HCN := hid hcnt; have HY0 := hid hy
   clear hC3 hcnt hy
   (refine wp_region_ext_tail 4 (by kernel_rfl) (by kernel_rfl) (by kernel_rfl) ?_; simp only [List.take_succ_cons, List.take_zero, List.drop_succ_cons, List.drop_zero]; (repeat (go_big_quiet_step (first | (go_at_call 14; with_reducible exact Calls.ext_of (HCt.out _ (Ext.b _))) | (go_at_call 13; with_reducible exact Calls.ext_of (HSn.out _))))); refine mX ?_; intro w4 hb4 hc4 hf4 hz4; intros)
   have r0 := (hb4.block _ hlS).trans q0
   have hC4 := HC3.out.below hb4
   have hb04 := hb03.trans (hb4.mono hb03.size)
   clear b0 b1 b2 b3 b4 b5 f0 q0 hb4 hc4 hf4 hz4 HCt HSn HC3 hb03 hlS
   have f0 : ∀ i, w4.frozen? ⟨S, i, none⟩ = false := fun i => by simp [World.frozen?, r0]
   obtain ⟨b0, b1, b2, b3, b4, b5⟩ := row6 r0
   go_upto_region 8 with fail
   obtain ⟨r1, g1⟩ := set6 r0 (.int .i64 y.s0) (.int .i64 y.s1) (.int .i64 y.s2) (.slice y.ra y.rs.length y.rc) (.slice y.sa y.ss.length y.sc) (.slice y.wa y.ws.length y.wc)
   have hC5 : CAt w.heap.size T cc ow ((((((w4.setCell ⟨S, 0, none⟩ (.int .i64 y.s0)).setCell ⟨S, 1, none⟩ (.int .i64 y.s1)).setCell ⟨S, 2, none⟩ (.int .i64 y.s2)).setCell ⟨S, 3, none⟩ (.slice y.ra y.rs.length y.rc)).setCell ⟨S, 4, none⟩ (.slice y.sa y.ss.length y.sc)).setCell ⟨S, 5, none⟩ (.slice y.wa y.ws.length y.wc)) := hC4.keep g1.size fun j hj h0 => g1.block _ hj (by intro e; have e' := Option.some.inj e; exact h0 (by rw [e']; exact zS))
   have hb05 := hb04.trans (grown_below g1 hwS hb04.size)
   generalize ((((((w4.setCell ⟨S, 0, none⟩ (.int .i64 y.s0)).setCell ⟨S, 1, none⟩ (.int .i64 y.s1)).setCell ⟨S, 2, none⟩ (.int .i64 y.s2)).setCell ⟨S, 3, none⟩ (.slice y.ra y.rs.length y.rc)).setCell ⟨S, 4, none⟩ (.slice y.sa y.ss.length y.sc)).setCell ⟨S, 5, none⟩ (.slice y.wa y.ws.length y.wc)) = w5 at *
   clear g1 r0 b0 b1 b2 b3 b4 b5 f0 hC4 hb04
   have HC5 := hid hC5
   have HB5 := hid hb05
   obtain ⟨hz, hhz⟩ : ∃ v, v = cc.horizon := ⟨_, rfl⟩
   have HHZ := hid hhz
   have HCt := hid fun W (hb : Below w5.heap.size w5 W) => (show Calls Tryz.prog 14 #[.pointer (some ⟨T, 0, none⟩)] W (Ret (.int .i64 cnt) W) from by have := count_any (HC5.out.below hb); rw [← HCN.out] at this; exact this)
   have HHz := hid fun W (hb : Below w5.heap.size w5 W) => (show Calls Tryz.prog 16 #[.pointer (some ⟨T, 0, none⟩)] W (Ret (.int .i64 hz) W) from by have := horizon_any (HC5.out.below hb); rw [← hhz] at this; exact this)
   have hlS : S < w5.heap.size := (Array.getElem?_eq_some_iff.1 r1).1
   have hz05 := hb05.size
   clear hC5 hhz hb05
   go_upto_region 9 with (first | (go_at_call 16; (with_reducible refine (HHz.out _ (by exact below_auto)).mono ?_); rintro e w6 ⟨rfl, hb6⟩; refine mB hb6 ?_; intro hc6 hf6 hz6; intros) | (go_at_call 14; (with_reducible refine (HCt.out _ (by exact below_auto)).mono ?_); rintro e w7 ⟨rfl, hb7⟩; refine mB hb7 ?_; intro hc7 hf7 hz7; intros))
   have hb57 : Below w5.heap.size w5 w7 := by exact below_auto
   have r1 := (hb57.block _ hlS).trans r1
   have HC7 := hid (HC5.out.below hb57)
   have HB7 := hid (HB5.out.trans (hb57.mono hz05))
   clear HHz HCt hb57 hlS HC5 HB5 hb6 hb7 hc6 hc7 hf6 hf7 hz6 hz7 hz05
   go_wp2_with fail
   refine (Inv.bytes HC7.out HI.out HR.out).mono ?_
   rintro e w8 ⟨a8, k8, rfl, hown8, hb8⟩
   have HC8 := hid (HC7.out.below hb8)
   have HB8 := hid (HB7.out.trans (hb8.mono HB7.out.size))
   have r1 := (hb8.block _ (Array.getElem?_eq_some_iff.1 r1).1).trans r1
   have hS8 : w7.heap.size ≤ w8.heap.size := hb8.size
   have HO8 := hid hown8
   have HZ8 := hid fun g (e : (Value.slice a8 (bytesC cc).length k8).ownBlock = some g) => (show ow g = 0 from Classical.byContradiction fun h0 => by
    have h1 := (hown8.lt g e).1
    have h2 := (HC7.out.low g h0).2
    omega)
   have HSy := hid (sub_old HYA.out HB8.out HC8.out (Nat.le_refl _))
   have hlS : S < w8.heap.size := (Array.getElem?_eq_some_iff.1 r1).1
   obtain ⟨ln, hln⟩ : ∃ l, l = (bytesC cc).length := ⟨_, rfl⟩
   have HLN := hid hln
   have D1 := hid (dec_both HC8.out HI.out HR.out HSy.out)
   obtain ⟨b0, b1, b2, b3, b4, b5⟩ := row6 r1
   rw [← hln] at HO8 HZ8 ⊢
   clear hown8 hb8 HC7 HB7 hln hS8
   go_wp2_with fail
   refine D1.out.mono ?_
   rintro e w9 ⟨code, num, cc', ow', ds', m', rfl, hD⟩
   have HD := hid hD
   have r1 := (hD.fr.block _ hlS zS).trans r1
   have HO9 := hid (row_kept HO8.out fun g e => hD.fr.block g (HO8.out.lt g e).2 (HZ8.out g e))
   have HB9 := hid (HB8.out.trans (HC8.out.fr_below hD.fr))
   clear b0 b1 b2 b3 b4 b5 D1 hD HO8 HB8 HC8 HSy hlS HZ8
   go_upto_region 11 with fail
   generalize hW10 : World.alloc w9 _ = w10
   have hb10 : Below w9.heap.size w9 w10 := by rw [← hW10]; exact below_auto
   have qV : w10.heap[w9.heap.size]? = some (.cells #[.int .i64 code, .int .i64 num] 41 (0, 0)) := by rw [← hW10]; exact heap_alloc_new w9 _
   obtain ⟨V, hV⟩ : ∃ V, V = w9.heap.size := ⟨_, rfl⟩
   rw [← hV] at qV ⊢
   have r1 := (hb10.block _ (Array.getElem?_eq_some_iff.1 r1).1).trans r1
   have HC10 := hid (HD.out.at_.below hb10)
   have HO10 := hid (HO9.out.kept (K.grown_of_below hb10) (by cases (Value.slice a8 ln k8).ownBlock <;> simp))
   have HB10 := hid (HB9.out.trans (hb10.mono HB9.out.size))
   have hwV : w.heap.size ≤ V := by rw [hV]; exact HB9.out.size
   clear hW10 hV hb10 HO9 HB9
   obtain ⟨b0, b1, b2, b3, b4, b5⟩ := row6 r1
   obtain ⟨v0, v1, -, -⟩ := row2 qV
   have hlS : S < w10.heap.size := (Array.getElem?_eq_some_iff.1 r1).1
   have hlV : V < w10.heap.size := (Array.getElem?_eq_some_iff.1 qV).1
   obtain ⟨cnt', hcnt'⟩ : ∃ v, v = cc'.count := ⟨_, rfl⟩
   obtain ⟨hz', hhz'⟩ : ∃ v, v = cc'.horizon := ⟨_, rfl⟩
   obtain ⟨rl, hrl⟩ : ∃ v, v = cc'.recs.length := ⟨_, rfl⟩
   have HCt := hid fun W (hb : Below w10.heap.size w10 W) => (show Calls Tryz.prog 14 #[.pointer (some ⟨T, 0, none⟩)] W (Ret (.int .i64 cnt') W) from by have := count_any (HC10.out.below hb); rw [← hcnt'] at this; exact this)
   have HHz := hid fun W (hb : Below w10.heap.size w10 W) => (show Calls Tryz.prog 16 #[.pointer (some ⟨T, 0, none⟩)] W (Ret (.int .i64 hz') W) from by have := horizon_any (HC10.out.below hb); rw [← hhz'] at this; exact this)
   have HRc := hid fun W (hb : Below w10.heap.size w10 W) => (show Calls Tryz.prog 24 #[.pointer (some ⟨T, 0, none⟩)] W (RecRet rl W) from by have := recent_any (HC10.out.below hb); rw [← hrl] at this; exact this)
   have hcb' : 0 ≤ cnt' ∧ cnt' ≤ 1099511627776 := by have := HD.out.at_.cnt; rw [hcnt']; omega
   have hzm : ¬ hz' < hz := by have := HD.out.hz; rw [← HHZ.out, ← hhz'] at this; omega
   have hzc : ¬ cnt' - (rl : Int) < hz' := by have := HD.out.inv.hz; have h1 : (CL.n cc').count = cc'.count := rfl; have h2 : (CL.n cc').horizon = cc'.horizon := rfl; have h3 : (CL.n cc').recs.length = cc'.recs.length := List.length_map _; rw [h1, h2, h3, ← hcnt', ← hhz', ← hrl] at this; omega
   have hrk : (rl : Int) ≤ min (max keep 1) 32 := by have := HD.out.inv.few; have h1 : (CL.n cc').keep = cc'.keep := rfl; have h3 : (CL.n cc').recs.length = cc'.recs.length := List.length_map _; rw [h1, h3, ← hrl, HD.out.keep, HKE.out] at this; exact this
   have hrk' : ¬ min (max keep 1) 32 < (rl : Int) := by omega
   have hr32 : (rl : Int) ≤ 32 := by omega
   have hzb : 0 ≤ hz' ∧ hz' ≤ 1099511627776 := by have := HD.out.at_.cnt; rw [hhz']; omega
   have HCNT' := hid hcnt'; have HHZ' := hid hhz'
   clear hcnt' hhz' hrl hrk
   go_upto_region 13 with (first | (go_at_call 16; (with_reducible refine (HHz.out _ (by exact below_auto)).mono ?_); rintro e w11 ⟨rfl, hb11⟩; refine mB hb11 ?_; intro hc11 hf11 hz11; intros) | (go_at_call 14; (with_reducible refine (HCt.out _ (by exact below_auto)).mono ?_); rintro e w12 ⟨rfl, hb12⟩; refine mB hb12 ?_; intro hc12 hf12 hz12; intros) | (go_at_call 24; (with_reducible refine (HRc.out _ (by exact below_auto)).mono ?_); rintro e w13 ⟨ra, rcp, rfl, hb13⟩; refine mB hb13 ?_; intro hc13 hf13 hz13; intros))
   have hbX : Below w10.heap.size w10 w13 := by exact below_auto
   have r1 := (hbX.block _ hlS).trans r1
   have qV := (hbX.block _ hlV).trans qV
   have HCX := hid (HC10.out.below hbX)
   have HOX := hid (HO10.out.kept (K.grown_of_below hbX) (by cases (Value.slice a8 ln k8).ownBlock <;> simp))
   have HBX := hid (HB10.out.trans (hbX.mono HB10.out.size))
   have hzX := HBX.out.size
   obtain ⟨wX, rfl⟩ : ∃ x, x = w13 := ⟨_, rfl⟩
   clear b0 b1 b2 b3 b4 b5 v0 v1 hlS hlV HCt HHz HRc hc11 hf11 hz11 hc12 hf12 hz12 hc13 hf13 hz13 hb11 hb12 hb13 hbX HC10 HO10 HB10 hzm hzc hrk' hr32
   obtain ⟨b0, b1, b2, b3, b4, b5⟩ := row6 r1
   obtain ⟨v0, v1, -, -⟩ := row2 qV
   have hlS : S < wX.heap.size := (Array.getElem?_eq_some_iff.1 r1).1
   have hlV : V < wX.heap.size := (Array.getElem?_eq_some_iff.1 qV).1
   obtain ⟨ck, hck⟩ : ∃ k, K.SubV.check y = k := ⟨_, rfl⟩
   have HCK0 := hid hck
   have HCK := hid fun W (hb : Below wX.heap.size wX W) => (show Calls Tryz.prog 15 #[.agg #[.int .i64 y.s0, .int .i64 y.s1, .int .i64 y.s2, .slice y.ra y.rs.length y.rc, .slice y.sa y.ss.length y.sc, .slice y.wa y.ws.length y.wc]] W (Ret (.int .i64 ck) W) from by have := K.refCheck_any y W (HYA.out.below (HBX.out.trans (hb.mono HBX.out.size))); rw [hck] at this; exact this)
   have hcm : cnt ≠ 1099511627776 := by have := HI.out.count; have h1 : (CL.n cc).count = cc.count := rfl; have h2 := HDL.out; have h3 := HCN.out; omega
   have HY1 := hid fun (h0 : ck = 0) (h1 : cnt < y.s2) => (show code = 113 from by
    have := HD.out.code_
    rw [hck, h0] at this
    exact this.symm.trans (code_young (c := CL.n cc) (x := SubV.n y) (by show cc.count ≠ _; rw [← HCN.out]; exact hcm) (by show cc.count < y.s2; rw [← HCN.out]; exact h1)))
   have HY2 := hid fun (h0 : ck = 0) (h1 : y.s2 ≤ cnt) (h2 : y.s2 < hz) => (show code = 110 from by
    have := HD.out.code_
    rw [hck, h0] at this
    exact this.symm.trans (code_old (c := CL.n cc) (x := SubV.n y) (by show cc.count ≠ _; rw [← HCN.out]; exact hcm) (by show ¬ cc.count < y.s2; rw [← HCN.out]; omega) (by show y.s2 < cc.horizon; rw [← HHZ.out]; exact h2)))
   clear hck
   obtain ⟨rt, hrt⟩ : ∃ b, (ck == 0) = b := ⟨_, rfl⟩
   have HRT := hid hrt
   go_upto_region 14 with (go_at_call 15; (with_reducible refine (HCK.out _ (by exact below_auto)).mono ?_); rintro e w14 ⟨rfl, hb14⟩; refine mB hb14 ?_; intro hc14 hf14 hz14; intros)
   try rw [hrt]
   clear hrt
   have r1 := (hb14.block _ hlS).trans r1
   have qV := (hb14.block _ hlV).trans qV
   have HC13 := hid (HCX.out.below hb14)
   have HO13 := hid (HOX.out.kept (K.grown_of_below hb14) (by cases (Value.slice a8 ln k8).ownBlock <;> simp))
   have HB13 := hid (HBX.out.trans (hb14.mono HBX.out.size))
   clear b0 b1 b2 b3 b4 b5 v0 v1 hlS hlV HCK HCX HOX HBX hb14 hc14 hf14 hz14
   obtain ⟨b0, b1, b2, b3, b4, b5⟩ := row6 r1
   obtain ⟨v0, v1, -, -⟩ := row2 qV
   have hlS : S < w14.heap.size := (Array.getElem?_eq_some_iff.1 r1).1
   have hlV : V < w14.heap.size := (Array.getElem?_eq_some_iff.1 qV).1
   go_cut [102] from 71 to 102 (fun t102 wc => t102 = .bool false ∧ wc = w14)
   case first =>
    cases rt
    ·go_wp2_with fail
     go_meet
     case rel => exact ⟨rfl, rfl⟩
    ·have h0 : ck = 0 := by have := HRT.out; simpa using this
     by_cases h1 : cnt < y.s2
     ·have h1' : ¬ y.s2 ≤ cnt := by omega
      have hc := HY1.out h0 h1
      rw [hc] at v0
      clear h0 hc
      go_wp2_with fail
      go_meet
      case rel => exact ⟨rfl, rfl⟩
     ·have h1' : y.s2 ≤ cnt := by omega
      by_cases h2 : y.s2 < hz
      ·have hc := HY2.out h0 h1' h2
       rw [hc] at v0
       clear h0 hc
       go_wp2_with fail
       go_meet
       case rel => exact ⟨rfl, rfl⟩
      ·clear h0
       go_wp2_with fail
       go_meet
       case rel => exact ⟨rfl, rfl⟩
   case rest =>
    obtain ⟨rfl, rfl⟩ := hcut
    obtain ⟨w14, rfl⟩ : ∃ x, x = wc := ⟨_, rfl⟩
    have HC14 := HC13; have HO14 := HO13; have HB14 := HB13
    have hz14 := HB14.out.size
    clear b0 b1 b2 b3 b4 b5 v0 v1 hlS hlV HC13 HO13 HB13 HY1 HY2
    obtain ⟨v0, v1, -, -⟩ := row2 qV
    have hlV : V < w14.heap.size := (Array.getElem?_eq_some_iff.1 qV).1
    have HCt := hid fun W (hb : Below w14.heap.size w14 W) => (show Calls Tryz.prog 14 #[.pointer (some ⟨T, 0, none⟩)] W (Ret (.int .i64 cnt') W) from by have := count_any (HC14.out.below hb); rw [← HCNT'.out] at this; exact this)
    have HDL' := hid (show ds'.length ≤ k + 1 from by
     have h1 := HD.out.inv.count
     have h2 := HI.out.count
     have h3 : (CL.n cc').count = cc'.count := rfl
     have h4 : (CL.n cc).count = cc.count := rfl
     have h5 := HDL.out
     by_cases hc0 : code = 0
     ·have := (HD.out.yes hc0).1; omega
     ·have := (HD.out.no hc0).1; rw [this] at h3 h1; omega)
    have HKE' := hid (HD.out.keep.trans HKE.out)
    by_cases hc0 : code = 0
    ·have h1 := (HD.out.yes hc0).1
     rw [← HCNT'.out, ← HCN.out] at h1
     have h2 : (cnt' != cnt + 1) = false := by simpa using h1
     have HN2 := hid h1
     rw [hc0] at v0
     clear hc0 h1
     go_wp2_with (go_at_call 14; (with_reducible refine (HCt.out _ (by exact below_auto)).mono ?_); rintro e w15 ⟨rfl, hb15⟩; refine mB hb15 ?_; intro hc15 hf15 hz15; intros)
     go_roundw
     case rel => exact ⟨k + 1, cc', ow', ds', m', by go_num, by omega, HDL', HKE', hid (HC14.out.below (by exact below_auto)), hid HD.out.inv, hid HD.out.rts, HB14.out.trans (Below.mono (by exact below_auto) hz14)⟩
     case measure => simp [intOf]; omega
    ·have hcc := (HD.out.no hc0).1
     have hcb : (code != 0) = true := by simpa using hc0
     have hcb2 : (code == 0) = false := by simpa using hc0
     have h1 : cnt' = cnt := by rw [HCNT'.out, HCN.out, hcc]
     have h2 : (cnt' != cnt) = false := by simpa using h1
     have HBy := hid fun W (hb : Below w14.heap.size w14 W) => (show Calls Tryz.prog 27 #[.pointer (some ⟨T, 0, none⟩)] W (BytesRet cc W) from by
      have h3 := Inv.bytes (HC14.out.below hb) HD.out.inv HD.out.rts
      rw [hcc] at h3
      exact h3)
     have HSB := hid fun (W : World) (hb : Below w14.heap.size w14 W) (a2 : Option Addr) (k2 : Nat) (base : Nat) (ho : W.ownsRow base 5 1 (.slice a2 (bytesC cc).length k2) (bytesC cc).length (bCells (bytesC cc))) => (show Calls Tryz.prog 26 #[.slice a8 ln k8, .slice a2 ln k2] W (Ret (.bool true) W) from by
      have hrow := HO14.out.kept (K.grown_of_below hb) (by cases (Value.slice a8 ln k8).ownBlock <;> simp)
      rw [HLN.out] at hrow ⊢
      exact P.sameB_any a8 a2 k8 k2 _ _ (bytesC cc) (bytesC cc) true W rfl rfl (own_bat2 rfl hrow (bytesC_lt cc)) (own_bat2 rfl ho (bytesC_lt cc)) (decide_eq_true rfl))
     clear hc0 hcc h1
     go_wp2_with (first | (go_at_call 27; (with_reducible refine (HBy.out _ (by exact below_auto)).mono ?_); rintro e w15 ⟨a15, k15, rfl, ho15, hb15⟩; rw [← HLN.out]; refine mB hb15 ?_; intro hc15 hf15 hz15; intros) | (go_at_call 26; (with_reducible refine (HSB.out w15 hb15 a15 k15 _ ho15).mono ?_); rintro e w16 ⟨rfl, hb16⟩; refine mB hb16 ?_; intro hc16 hf16 hz16; intros; have hlV16 : V < w15.heap.size := (by omega)) | ((go_at_call 14; (with_reducible refine (HCt.out _ (by exact below_auto)).mono ?_); rintro e w17 ⟨rfl, hb17⟩; refine mB hb17 ?_; intro hc17 hf17 hz17; intros); have hlV17 : V < w16.heap.size := (by omega)))
     go_roundw
     case rel => exact ⟨k + 1, cc', ow', ds', m', by go_num, by omega, HDL', HKE', hid (HC14.out.below (by exact below_auto)), hid HD.out.inv, hid HD.out.rts, HB14.out.trans (Below.mono (by exact below_auto) hz14)⟩
     case measure => simp [intOf]; omega
  ·obtain rfl : k = n := by omega
   have hge : ¬ (k : Int) < (k : Int) := by omega
   go_wp2_with fail
   go_ret
   exact ⟨rfl, hbw⟩
end Go.Proofs.YtfbachckdadhoaaGreat.C
