/- The walk of CertPairs. -/
import Derived.Test.YtfbachckdadhoaaGreatMCQ
import Derived.Test.YtfbachckdadhoaaGreatMCE
namespace Go.Proofs.YtfbachckdadhoaaGreat.C
set_option linter.unusedVariables false
open Go.RowKit Fl
set_option linter.unusedSimpArgs false

theorem overR_nil : ∀ (n : Int) (rs : List Nat), 0 ≤ n → overR [] n rs = n
 | _, [], _ => rfl
 | n, k :: rs, h => by
  show overR [] (max n (atI [] k)) rs = n
  rw [at_nil, Int.max_eq_left h]
  exact overR_nil n rs h
theorem overS_nil : ∀ (n : Int) (ss : List SpanV), 0 ≤ n → overS [] n ss = n
 | _, [], _ => rfl
 | n, k :: ss, h => by
  show overS [] (max n 0) ss = n
  rw [Int.max_eq_left h]
  exact overS_nil n ss h
theorem lks_nil (ws : List Nat) : ws.foldl (lkW [] [] [] 0) (false, 0) = (false, 0) := by
 induction ws with
 | nil => rfl
 | cons k ws ih =>
  rw [List.foldl_cons]
  have : lkW [] [] [] 0 (false, 0) k = (false, 0) := by simp [lkW, at_nil, atq_nil]
  rw [this]; exact ih
theorem sumL_zero (c : CL) (h1 : c.i1 = []) (h2 : c.i2 = []) (h3 : c.i3 = []) (h4 : c.i4 = []) (x : SubV) (hx : x.s2 = 0) : sumL c x = ⟨false, false, 0, 0⟩ := by
 unfold sumL lksW overD
 rw [h1, h2, h3, h4, hx, lks_nil, overR_nil 0 _ (Int.le_refl _), overS_nil 0 _ (Int.le_refl _)]
 rfl
theorem lookD_first (kp m : Int) (x : SubV) (hx : x.s2 = 0) : lookD (newC kp m 0 0 0 0) x = ⟨false, false, 0, 0⟩ := by
 unfold lookD
 rw [sumL_zero _ rfl rfl rfl rfl x hx]
 rfl
theorem code_first (kp m : Int) (x : SubV) (hx : x.s2 = 0) : codeD (newC kp m 0 0 0 0) x 0 = 0 := by
 unfold codeD
 rw [lookD_first _ _ _ hx, hx]
 simp [newC]
def pairCode (a b : SubV) : Int := if (b.ws.any fun k => a.writes k) = true then 111 else if b.meets a = true ∧ a.meets b = true then 112 else 0
theorem lookD_pair (kp m : Int) (a b : SubV) (hb : b.s2 = 0) : lookD (oneC kp m a) b = ⟨b.ws.any (fun k => a.writes k), false, if b.meets a = true then 1 else 0, if a.meets b = true then 1 else 0⟩ := by
 unfold lookD
 rw [sumL_zero _ rfl rfl rfl rfl b hb]
 show recL b ⟨false, false, 0, 0⟩ ⟨1, a, false⟩ = _
 unfold recL
 rw [if_neg (by rw [hb]; simp)]
 simp
theorem code_pair (kp m : Int) (a b : SubV) (hb : b.s2 = 0) : codeD (oneC kp m a) b 0 = pairCode a b := by
 unfold codeD pairCode
 rw [lookD_pair kp m a b hb, hb]
 simp only [oneC, newC]
 by_cases h1 : (b.ws.any fun k => a.writes k) = true
 ·simp [h1]
 ·cases hm : b.meets a <;> cases hn : a.meets b <;> simp [h1]
theorem pair_w {a b : SubV} {key : Nat} (h : key ∈ a.ws) (hw : b.writes key = true) : (b.ws.any fun k => a.writes k) = true := by
 obtain ⟨k, hk, hf⟩ := List.any_eq_true.1 hw
 exact List.any_eq_true.2 ⟨k, hk, List.any_eq_true.2 ⟨key, h, by rw [feq_comm']; exact hf⟩⟩
theorem pair_n {a b : SubV} (h : ∀ key ∈ a.ws, b.writes key = false) : (b.ws.any fun k => a.writes k) = false := by
 rw [List.any_eq_false]
 intro k hk hw
 obtain ⟨key, h1, h2⟩ := List.any_eq_true.1 hw
 have := h key h1
 have h3 : b.writes key = true := List.any_eq_true.2 ⟨k, hk, by rw [feq_comm']; exact h2⟩
 rw [this] at h3; cases h3
def vCode (a x : SubV) : Int := if K.SubV.check x ≠ 0 then K.SubV.check x else pairCode a (SubV.n x)
def vNum (a x : SubV) : Int := if vCode a x = 0 then 2 else 0
theorem dec_two {B T : Nat} {c : CL} {ow : Nat → Nat} {w : World} (h : CAt B T c ow w) {a x : SubV} (e : CL.n c = oneC 4 9 a) (hx : x.s2 = 0) (hy : SubL (fun k => ow k = 0) x w) :
  Calls Tryz.prog 18 #[.pointer (some ⟨T, 0, none⟩), .agg #[.int .i64 x.s0, .int .i64 x.s1, .int .i64 x.s2, .slice x.ra x.rs.length x.rc, .slice x.sa x.ss.length x.sc, .slice x.wa x.ws.length x.wc]] w fun r w' => r = .returned (.agg #[.int .i64 (vCode a x), .int .i64 (vNum a x)]) ∧ ∃ (c' : CL) (ow' : Nat → Nat), CAt B T c' ow' w' ∧ Fr ow ow' w w' := by
 obtain ⟨f1, f2, f3, _⟩ := oneC_facts e
 have hl : (c.recs.length : Int) ≤ c.keep := by rw [f1, f2]; decide
 by_cases hk : K.SubV.check x = 0
 ·have hc : codeD (CL.n c) (SubV.n x) 0 = pairCode a (SubV.n x) := by rw [e]; exact code_pair 4 9 a _ hx
  have hv : vCode a x = pairCode a (SubV.n x) := if_neg (by rw [hk]; simp)
  by_cases hp : pairCode a (SubV.n x) = 0
  ·refine (dec_ok h hl ⟨rfl, rfl, rfl, rfl, rfl, rfl⟩ hy hk (hc.trans hp) (n := 2) (by rw [f3]; rfl)).mono ?_
   rintro r w' ⟨rfl, c', ow', h1, h2, _⟩
   exact ⟨by rw [show vCode a x = 0 from hv.trans hp, show vNum a x = 2 from if_pos (hv.trans hp)], c', ow', h1, h2⟩
  ·refine (dec_no h hl ⟨rfl, rfl, rfl, rfl, rfl, rfl⟩ hy (x := x) (code := pairCode a (SubV.n x)) (by rw [hk]; exact hc) hp).mono ?_
   rintro r w' ⟨rfl, ow', h1, h2⟩
   exact ⟨by rw [hv, show vNum a x = 0 from if_neg (by rw [hv]; exact hp)], c, ow', h1, h2⟩
 ·have hv : vCode a x = K.SubV.check x := if_pos hk
  refine (dec_no h hl ⟨rfl, rfl, rfl, rfl, rfl, rfl⟩ hy (x := x) (code := K.SubV.check x) (by unfold codeD; rw [if_pos hk]) hk).mono ?_
  rintro r w' ⟨rfl, ow', h1, h2⟩
  exact ⟨by rw [hv, show vNum a x = 0 from if_neg (by rw [hv]; exact hk)], c, ow', h1, h2⟩
theorem sub_old {w W : World} {x : SubV} {B T : Nat} {c : CL} {ow : Nat → Nat} (hx : x.At w) (hb : Below w.heap.size w W) (h : CAt B T c ow W) (hB : w.heap.size ≤ B) : SubL (fun k => ow k = 0) x W := by
 have z : ∀ k, k < w.heap.size → ow k = 0 := fun k hk => Classical.byContradiction fun h0 => by have := (h.low k h0).1; omega
 refine ⟨hx.below hb, fun h0 b o e => ?_, fun h0 b o e => ?_, fun h0 b o e => ?_⟩
 ·rcases hx.r.row with h4 | ⟨b', o', h5, h6, _⟩
  ·exact absurd h4 h0
  ·rw [e] at h5; cases h5; exact z b h6
 ·rcases hx.s.row with h4 | ⟨b', o', h5, h6, _⟩
  ·exact absurd h4 h0
  ·rw [e] at h5; cases h5; exact z b h6
 ·rcases hx.w.row with h4 | ⟨b', o', h5, h6, _⟩
  ·exact absurd h4 h0
  ·rw [e] at h5; cases h5; exact z b h6
def SubV.z (x : SubV) : SubV := { x with s2 := 0 }
set_option maxHeartbeats 4000000 in
set_option maxRecDepth 100000 in
theorem certPairs_walk (a b : SubV) (w : World) (ha : a.At w) (hb : b.At w) : Calls Tryz.prog 5 #[.agg #[.int .i64 a.s0, .int .i64 a.s1, .int .i64 a.s2, .slice a.ra a.rs.length a.rc, .slice a.sa a.ss.length a.sc, .slice a.wa a.ws.length a.wc], .agg #[.int .i64 b.s0, .int .i64 b.s1, .int .i64 b.s2, .slice b.ra b.rs.length b.rc, .slice b.sa b.ss.length b.sc, .slice b.wa b.ws.length b.wc]] w (Ret (.bool true) w) := by
 have HA := hid ha; have HB := hid hb
 clear ha hb
 go_enter Tryz.func5, Tryz.ntmps5
 go_upto_region 1 with fail
 generalize hW1 : World.alloc _ _ = w1
 have hA1 : Below w.heap.size w w1 := by rw [← hW1]; exact below_auto
 have hz1 : w.heap.size + 1 < w1.heap.size := by rw [← hW1]; simp
 have q0 : w1.heap[w.heap.size]? = some (.cells #[.int .i64 a.s0, .int .i64 a.s1, .int .i64 a.s2, .slice a.ra a.rs.length a.rc, .slice a.sa a.ss.length a.sc, .slice a.wa a.ws.length a.wc] 32 (0, 0)) := by rw [← hW1]; exact (two_alloc w _ _).1
 have q1 : w1.heap[w.heap.size + 1]? = some (.cells #[.int .i64 b.s0, .int .i64 b.s1, .int .i64 b.s2, .slice b.ra b.rs.length b.rc, .slice b.sa b.ss.length b.sc, .slice b.wa b.ws.length b.wc] 32 (0, 0)) := by rw [← hW1]; exact (two_alloc w _ _).2
 clear hW1
 go_wp2_with fail
 refine (new_any 4 9 w1 ⟨by decide, by decide⟩).mono ?_
 rintro e w2 ⟨T, p1, p2, p3, p4, ow, rfl, hC2, hb2⟩
 go_wp2_with fail
 refine (alive11_any w2).mono ?_
 rintro e w3 ⟨rfl, hb3⟩
 have hb13 := hb2.trans (hb3.mono hb2.size)
 have hC3 := hC2.below hb3
 have q0 := (hb13.block _ (by omega)).trans q0
 have q1 := (hb13.block _ hz1).trans q1
 have hz3 := hb13.size
 have hA3 := hA1.trans (hb13.mono (by omega))
 clear hb2 hb3 hC2 hb13
 obtain ⟨b0, b1, b2, b3, b4, b5⟩ := row6 q0
 obtain ⟨d0, d1, d2, d3, d4, d5⟩ := row6 q1
 have f0 : w3.frozen? ⟨w.heap.size, 2, none⟩ = false := by simp [World.frozen?, q0]
 have f1 : w3.frozen? ⟨w.heap.size + 1, 2, none⟩ = false := by simp [World.frozen?, q1]
 have hl0 : w.heap.size < w3.heap.size := by omega
 have hl1 : w.heap.size + 1 < w3.heap.size := by omega
 go_upto_region 6 with fail
 obtain ⟨r0, g0⟩ := K.set1 (i := 2) q0 (.int .i64 0)
 obtain ⟨r1, g1⟩ := K.set1 (i := 2) ((g0.block _ hl1 (by intro e; have := Option.some.inj e; omega)).trans q1) (.int .i64 0)
 have r0 := (g1.block _ (by have := g0.size; omega) (by intro e; have := Option.some.inj e; omega)).trans r0
 have hC4 : CAt w1.heap.size T (newC 4 9 p1 p2 p3 p4) ow ((w3.setCell ⟨w.heap.size, 2, none⟩ (.int .i64 0)).setCell ⟨w.heap.size + 1, 2, none⟩ (.int .i64 0)) := hC3.keep (Nat.le_trans g0.size g1.size) fun k hk h0 => by
  have := (hC3.low k h0).1
  exact (g1.block _ (by have := g0.size; omega) (by intro e; have := Option.some.inj e; omega)).trans (g0.block _ hk (by intro e; have := Option.some.inj e; omega))
 have hA4 : Below w.heap.size w ((w3.setCell ⟨w.heap.size, 2, none⟩ (.int .i64 0)).setCell ⟨w.heap.size + 1, 2, none⟩ (.int .i64 0)) := (hA3.trans (grown_below g0 (Nat.le_refl _) (by omega))).trans (grown_below g1 (by omega) (by have := g0.size; omega))
 generalize (w3.setCell ⟨w.heap.size, 2, none⟩ (.int .i64 0)).setCell ⟨w.heap.size + 1, 2, none⟩ (.int .i64 0) = w4 at *
 have r0 : w4.heap[w.heap.size]? = some (.cells #[.int .i64 a.s0, .int .i64 a.s1, .int .i64 0, .slice a.ra a.rs.length a.rc, .slice a.sa a.ss.length a.sc, .slice a.wa a.ws.length a.wc] 32 (0, 0)) := r0
 have r1 : w4.heap[w.heap.size + 1]? = some (.cells #[.int .i64 b.s0, .int .i64 b.s1, .int .i64 0, .slice b.ra b.rs.length b.rc, .slice b.sa b.ss.length b.sc, .slice b.wa b.ws.length b.wc] 32 (0, 0)) := r1
 clear g0 g1 q0 q1 b0 b1 b2 b3 b4 b5 d0 d1 d2 d3 d4 d5 f0 f1 hl0 hl1 hC3 hA3 hz3
 have HAz := hid (show (SubV.z a).At w from ⟨HA.out.r, HA.out.s, HA.out.w⟩)
 have HBz := hid (show (SubV.z b).At w from ⟨HB.out.r, HB.out.s, HB.out.w⟩)
 have hw1 : w.heap.size ≤ w1.heap.size := hA1.size
 have HSA := hid (sub_old HAz.out hA4 hC4 hw1)
 obtain ⟨ka, hka⟩ : ∃ k, K.SubV.check (SubV.z a) = k := ⟨_, rfl⟩
 have HKA := hid hka
 clear hka
 have zA : ∀ k, k < w1.heap.size → ow k = 0 := fun k hk => Classical.byContradiction fun h0 => by have := (hC4.low k h0).1; omega
 have hl0 : w.heap.size < w4.heap.size := (Array.getElem?_eq_some_iff.1 r0).1
 have hl1 : w.heap.size + 1 < w4.heap.size := (Array.getElem?_eq_some_iff.1 r1).1
 obtain ⟨b0, b1, b2, b3, b4, b5⟩ := row6 r0
 by_cases hk : ka = 0
 rotate_left
 ·have D1 := hid (dec_no hC4 (by simp [newC]) (x := SubV.z a) ⟨rfl, rfl, rfl, rfl, rfl, rfl⟩ HSA.out (code := ka) (by unfold codeD; rw [HKA.out, if_pos hk]) hk)
  have hkb : (ka == 0) = false := by simpa using hk
  have H4 := hid hC4
  go_wp2_with fail
  refine D1.out.mono ?_
  rintro e w5 ⟨rfl, ow5, hC5, hF5⟩
  have r0 := (hF5.block _ hl0 (zA _ (by omega))).trans r0
  have hb5 := hA4.trans ((H4.out.fr_below hF5).mono (by omega))
  have HCt := hid fun W (hb : Below w5.heap.size w5 W) => count_any (hC5.below hb)
  have HRC := hid fun W (hb : Below w5.heap.size w5 W) => HAz.out.below (hb5.trans (hb.mono hb5.size))
  obtain ⟨c0, c1, c2, c3, c4, c5⟩ := row6 r0
  have hl5 : w.heap.size < w5.heap.size := (Array.getElem?_eq_some_iff.1 r0).1
  have hz5 := hb5.size
  have HCK := hid fun W (hb : Below w5.heap.size w5 W) => (show Calls Tryz.prog 15 #[.agg #[.int .i64 a.s0, .int .i64 a.s1, .int .i64 0, .slice a.ra a.rs.length a.rc, .slice a.sa a.ss.length a.sc, .slice a.wa a.ws.length a.wc]] W (Ret (.int .i64 ka) W) from by have := K.refCheck_any (SubV.z a) W (HRC.out W hb); rw [HKA.out] at this; exact this)
  clear b0 b1 b2 b3 b4 b5 D1 hC5 hF5 hk
  go_wp2_with (first | (go_at_call 15; (with_reducible refine (HCK.out _ (by exact below_auto)).mono ?_); rintro e w6 ⟨rfl, hb6⟩; refine mB hb6 ?_; intro hc6 hf6 hz6; intros) | (go_at_call 14; (with_reducible refine (HCt.out _ (by exact below_auto)).mono ?_); rintro e w7 ⟨rfl, hb7⟩; refine mB hb7 ?_; intro hc7 hf7 hz7; intros))
  go_ret
  exact ⟨rfl, by exact below_auto⟩
 ·subst hk
  have D1 := hid (dec_ok hC4 (by simp [newC]) (x := SubV.z a) ⟨rfl, rfl, rfl, rfl, rfl, rfl⟩ HSA.out HKA.out (code_first 4 9 (SubV.n (SubV.z a)) rfl) (n := 1) rfl)
  have H4 := hid hC4
  go_wp2_with fail
  refine D1.out.mono ?_
  rintro e w5 ⟨rfl, c1, ow5, hC5, hF5, hn5⟩
  have e5 : CL.n c1 = oneC 4 9 (SubV.n (SubV.z a)) := by
   rw [hn5]
   show (newC 4 9 0 0 0 0).commit (SubV.n (SubV.z a)) (decide (0 < (lookD (newC 4 9 0 0 0 0) (SubV.n (SubV.z a))).least)) = _
   rw [lookD_first _ _ _ rfl]
   exact commit_new 4 9 (by decide) _
  have r0 := (hF5.block _ hl0 (zA _ (by omega))).trans r0
  have r1 := (hF5.block _ hl1 (zA _ (by omega))).trans r1
  have hb5 := hA4.trans ((H4.out.fr_below hF5).mono (by omega))
  have hw15 : w1.heap.size ≤ w5.heap.size := by have := hC5.lt; omega
  have HCK := hid fun W (hb : Below w5.heap.size w5 W) => (show Calls Tryz.prog 15 #[.agg #[.int .i64 a.s0, .int .i64 a.s1, .int .i64 0, .slice a.ra a.rs.length a.rc, .slice a.sa a.ss.length a.sc, .slice a.wa a.ws.length a.wc]] W (Ret (.int .i64 0) W) from by have := K.refCheck_any (SubV.z a) W (HAz.out.below (hb5.trans (hb.mono hb5.size))); rw [HKA.out] at this; exact this)
  have z0 := (hF5.own _ hl0).trans (zA _ (by omega))
  have z1 := (hF5.own _ hl1).trans (zA _ (by omega))
  clear b0 b1 b2 b3 b4 b5 D1 hF5 hn5 hl0 hl1 hA4 hC4 zA
  go_upto_region 7 with fail
  generalize hW6 : World.alloc w5 _ = w6
  have hb6 : Below w5.heap.size w5 w6 := by rw [← hW6]; exact below_auto
  have qV : w6.heap[w5.heap.size]? = some (.cells #[.int .i64 0, .int .i64 1] 41 (0, 0)) := by rw [← hW6]; exact heap_alloc_new w5 _
  obtain ⟨V, hV⟩ : ∃ V, V = w5.heap.size := ⟨_, rfl⟩
  rw [← hV] at qV ⊢
  have hl5 : w.heap.size + 1 < w5.heap.size := (Array.getElem?_eq_some_iff.1 r1).1
  have hCK := HCK.out w6 hb6
  have r0 := (hb6.block _ (by omega)).trans r0
  have r1 := (hb6.block _ hl5).trans r1
  have hC6 := hC5.below hb6
  have hb06 := hb5.trans (hb6.mono hb5.size)
  obtain ⟨b0, b1, b2, b3, b4, b5⟩ := row6 r0
  have hlA : w.heap.size < w6.heap.size := (Array.getElem?_eq_some_iff.1 r0).1
  have hlB : w.heap.size + 1 < w6.heap.size := (Array.getElem?_eq_some_iff.1 r1).1
  have hlV := (Array.getElem?_eq_some_iff.1 qV).1
  have hVA : w.heap.size + 1 < V := by omega
  have zV : ow5 V = 0 := Classical.byContradiction fun h0 => by have := (hC5.low V h0).2; omega
  clear hW6 hb6 HCK hC5 hV hb5
  go_upto_region 8 with (go_at_call 15; (with_reducible refine (hCK).mono ?_); rintro e w7 ⟨rfl, hb7⟩; refine mB hb7 ?_; intro hc7 hf7 hz7; intros)
  have r0 := (hb7.block _ hlA).trans r0
  have r1 := (hb7.block _ hlB).trans r1
  have qV := (hb7.block _ hlV).trans qV
  have hC7 := hC6.below hb7
  have hb07 := hb06.trans (hb7.mono hb06.size)
  clear hb7 hc7 hf7 hC6 hb06 b0 b1 b2 b3 b4 b5 hCK
  have hlA : w.heap.size < w7.heap.size := (Array.getElem?_eq_some_iff.1 r0).1
  have hlB : w.heap.size + 1 < w7.heap.size := (Array.getElem?_eq_some_iff.1 r1).1
  have hlV := (Array.getElem?_eq_some_iff.1 qV).1
  have hw17 : w.heap.size ≤ w1.heap.size := hw1
  have D2 := hid (dec_two hC7 e5 (x := SubV.z b) rfl (sub_old HBz.out hb07 hC7 hw17))
  have H7 := hid hC7
  obtain ⟨d0, d1, d2, d3, d4, d5⟩ := row6 r1
  clear hC7
  go_upto_region 10 with fail
  go_wp2_with fail
  refine D2.out.mono ?_
  rintro e w8 ⟨rfl, c2, ow8, hC8, hF8⟩
  have r0 := (hF8.block _ hlA z0).trans r0
  have r1 := (hF8.block _ hlB z1).trans r1
  have qV := (hF8.block _ hlV zV).trans qV
  have hb08 := hb07.trans ((H7.out.fr_below hF8).mono (by omega))
  clear d0 d1 d2 d3 d4 d5 D2 hC8 hF8 hb07 hlA hlB hlV z0 z1 zV H7
  obtain ⟨vc, hvc⟩ : ∃ v, vCode (SubV.n (SubV.z a)) (SubV.z b) = v := ⟨_, rfl⟩
  obtain ⟨vn, hvn⟩ : ∃ v, vNum (SubV.n (SubV.z a)) (SubV.z b) = v := ⟨_, rfl⟩
  rw [hvc, hvn]
  have HVC := hid hvc; have HVN := hid hvn
  clear hvc hvn
  go_upto_region 11 with fail
  generalize hW9 : World.alloc w8 _ = w9
  have hb9 : Below w8.heap.size w8 w9 := by rw [← hW9]; exact below_auto
  have qU : w9.heap[w8.heap.size]? = some (.cells #[.int .i64 vc, .int .i64 vn] 41 (0, 0)) := by rw [← hW9]; exact heap_alloc_new w8 _
  obtain ⟨U, hU⟩ : ∃ U, U = w8.heap.size := ⟨_, rfl⟩
  rw [← hU] at qU ⊢
  have r0 := (hb9.block _ (Array.getElem?_eq_some_iff.1 r0).1).trans r0
  have r1 := (hb9.block _ (Array.getElem?_eq_some_iff.1 r1).1).trans r1
  have qV := (hb9.block _ (Array.getElem?_eq_some_iff.1 qV).1).trans qV
  have hb09 := hb08.trans (hb9.mono hb08.size)
  clear hW9 hU hb9 hb08
  obtain ⟨b0, b1, b2, b3, b4, b5⟩ := row6 r0
  obtain ⟨d0, d1, d2, d3, d4, d5⟩ := row6 r1
  obtain ⟨v0, v1, -, -⟩ := row2 qV
  obtain ⟨u0, u1, -, -⟩ := row2 qU
  have hlA : w.heap.size < w9.heap.size := (Array.getElem?_eq_some_iff.1 r0).1
  have hlB : w.heap.size + 1 < w9.heap.size := (Array.getElem?_eq_some_iff.1 r1).1
  have hlV := (Array.getElem?_eq_some_iff.1 qV).1
  have hlU := (Array.getElem?_eq_some_iff.1 qU).1
  have hz9 := hb09.size
  obtain ⟨kb, hkb⟩ : ∃ k, K.SubV.check (SubV.z b) = k := ⟨_, rfl⟩
  have HKB := hid hkb
  have HCK := hid fun W (hb : Below w9.heap.size w9 W) => (show Calls Tryz.prog 15 #[.agg #[.int .i64 b.s0, .int .i64 b.s1, .int .i64 0, .slice b.ra b.rs.length b.rc, .slice b.sa b.ss.length b.sc, .slice b.wa b.ws.length b.wc]] W (Ret (.int .i64 kb) W) from by have := K.refCheck_any (SubV.z b) W (HBz.out.below (hb09.trans (hb.mono hb09.size))); rw [hkb] at this; exact this)
  clear hkb
  by_cases hk : kb = 0
  rotate_left
  ·have hkb : (kb == 0) = false := by simpa using hk
   have evc : vc = kb := by rw [← HVC.out]; unfold vCode; rw [HKB.out]; exact if_pos hk
   have evn : vn = 0 := by rw [← HVN.out]; unfold vNum; rw [HVC.out, evc]; exact if_neg hk
   rw [evc] at u0
   rw [evn] at u1
   clear hk evc evn
   go_wp2_with (go_at_call 15; (with_reducible refine (HCK.out _ (by exact below_auto)).mono ?_); rintro e w10 ⟨rfl, hb10⟩; refine mB hb10 ?_; intro hc10 hf10 hz10; intros)
   go_ret
   exact ⟨rfl, by exact below_auto⟩
  ·subst hk
   go_upto_region 16 with (go_at_call 15; (with_reducible refine (HCK.out _ (by exact below_auto)).mono ?_); rintro e w10 ⟨rfl, hb10⟩; refine mB hb10 ?_; intro hc10 hf10 hz10; intros)
   have r0 := (hb10.block _ hlA).trans r0
   have r1 := (hb10.block _ hlB).trans r1
   have qU := (hb10.block _ hlU).trans qU
   have hbX := hb09.trans (hb10.mono hz9)
   have hm := HA.out.w.len
   unfold maxLen at hm
   clear HCK b0 b1 b2 b3 b4 b5 d0 d1 d2 d3 d4 d5 v0 v1 u0 u1 qV hlV hlA hlB hlU hb10 hc10 hf10 hz10 hb09 hz9
   have evc : vc = pairCode a b := by rw [← HVC.out]; unfold vCode; rw [HKB.out]; exact if_neg (by simp)
   have evn : vn = if vc = 0 then 2 else 0 := by rw [← HVN.out]; unfold vNum; rw [HVC.out]
   have EVC := hid evc; have EVN := hid evn
   clear evc evn
   have HWt := hid (fat_get HA.out.w)
   have HRW := hid fun W (hb : Below w10.heap.size w10 W) key => (show Calls Tryz.prog 20 #[.agg #[.int .i64 b.s0, .int .i64 b.s1, .int .i64 0, .slice b.ra b.rs.length b.rc, .slice b.sa b.ss.length b.sc, .slice b.wa b.ws.length b.wc], .float .f64 key] W (Ret (.bool (b.writes key)) W) from refWrites_any (SubV.z b) key W (HBz.out.below (hbX.trans (hb.mono hbX.size))))
   have HM1 := hid fun W (hb : Below w10.heap.size w10 W) => (show Calls Tryz.prog 21 #[.agg #[.int .i64 a.s0, .int .i64 a.s1, .int .i64 0, .slice a.ra a.rs.length a.rc, .slice a.sa a.ss.length a.sc, .slice a.wa a.ws.length a.wc], .agg #[.int .i64 b.s0, .int .i64 b.s1, .int .i64 0, .slice b.ra b.rs.length b.rc, .slice b.sa b.ss.length b.sc, .slice b.wa b.ws.length b.wc]] W (Ret (.bool (a.meets b)) W) from refMeets04_any (SubV.z a) (SubV.z b) W (HAz.out.below (hbX.trans (hb.mono hbX.size))) (HBz.out.below (hbX.trans (hb.mono hbX.size))))
   have HM2 := hid fun W (hb : Below w10.heap.size w10 W) => (show Calls Tryz.prog 21 #[.agg #[.int .i64 b.s0, .int .i64 b.s1, .int .i64 0, .slice b.ra b.rs.length b.rc, .slice b.sa b.ss.length b.sc, .slice b.wa b.ws.length b.wc], .agg #[.int .i64 a.s0, .int .i64 a.s1, .int .i64 0, .slice a.ra a.rs.length a.rc, .slice a.sa a.ss.length a.sc, .slice a.wa a.ws.length a.wc]] W (Ret (.bool (b.meets a)) W) from refMeets04_any (SubV.z b) (SubV.z a) W (HBz.out.below (hbX.trans (hb.mono hbX.size))) (HAz.out.below (hbX.trans (hb.mono hbX.size))))
   obtain ⟨b0, b1, b2, b3, b4, b5⟩ := row6 r0
   go_upto_region 17 with fail
   go_loopw [65] (fun i wr => ∃ k : Nat, k ≤ a.ws.length ∧ i = .int .i64 k ∧ Hid (∀ j : Nat, j < k → ∀ key, a.ws[j]? = some key → b.writes key = false) ∧ Below w10.heap.size w10 wr) (fun i _ => a.ws.length - (intOf i).toNat)
   case atStart => exact ⟨0, Nat.zero_le _, rfl, hid (fun j hj => absurd hj (Nat.not_lt_zero _)), Below.refl _ _⟩
   case round =>
    clear b0 b1 b2 b3 b4 b5
    obtain ⟨k, hk, rfl, HR, hbw⟩ := hrel
    have r0 := (hbw.block _ (Array.getElem?_eq_some_iff.1 r0).1).trans r0
    have r1 := (hbw.block _ (Array.getElem?_eq_some_iff.1 r1).1).trans r1
    have qU := (hbw.block _ (Array.getElem?_eq_some_iff.1 qU).1).trans qU
    obtain ⟨b0, b1, b2, b3, b4, b5⟩ := row6 r0
    obtain ⟨d0, d1, d2, d3, d4, d5⟩ := row6 r1
    obtain ⟨u0, u1, -, -⟩ := row2 qU
    have hlA : w.heap.size < wr.heap.size := (Array.getElem?_eq_some_iff.1 r0).1
    have hlB : w.heap.size + 1 < wr.heap.size := (Array.getElem?_eq_some_iff.1 r1).1
    have hlU := (Array.getElem?_eq_some_iff.1 qU).1
    have hsz := hbw.size
    have hbW := hbX.trans (hbw.mono hbX.size)
    have hsW := hbW.size
    by_cases hlt : k < a.ws.length
    ·obtain ⟨g, o, hwa, hg, c0, _⟩ := HWt.out k hlt
     have hlt' : (k : Int) < (a.ws.length : Int) := by omega
     have hkx := hid (fl_some (xs := a.ws) (k := k) hlt)
     have cc := (hbW.cell (p := ⟨g, _, none⟩) hg).trans c0
     generalize a.ws[k]?.getD 0 = key at *
     have HK := HRW.out
     rw [hwa]
     cases hp : b.writes key
     ·have H1 := fun W hb => HK W hb key
      rw [hp] at H1
      have HP := hid hp
      clear hp HK c0
      go_wp2_with (go_at_call 20; (with_reducible refine (H1 _ (by clear hbW; exact below_auto)).mono ?_); rintro e w11 ⟨rfl, hb11⟩; refine mB hb11 ?_; intro hc11 hf11 hz11; intros)
      go_roundw
      case rel => exact ⟨k + 1, by omega, by go_num, hid (fun j hj y hy => by
        by_cases h : j < k
        ·exact HR.out j h y hy
        ·obtain rfl : j = k := by omega
         rw [hkx.out] at hy; cases hy; exact HP.out), by clear hbW; exact below_auto⟩
      case measure => simp [intOf]; omega
     ·have H1 := fun W hb => HK W hb key
      rw [hp] at H1
      have e1 : vc = 111 := EVC.out.trans (if_pos (pair_w (List.mem_of_getElem? hkx.out) hp))
      have e2 : vn = 0 := EVN.out.trans (by rw [e1]; rfl)
      rw [e1] at u0
      rw [e2] at u1
      clear hp HK c0 e1 e2
      go_wp2_with (go_at_call 20; (with_reducible refine (H1 _ (by clear hbW; exact below_auto)).mono ?_); rintro e w11 ⟨rfl, hb11⟩; refine mB hb11 ?_; intro hc11 hf11 hz11; intros)
      go_ret
      exact ⟨rfl, by clear hbw; exact below_auto⟩
    ·obtain rfl : k = a.ws.length := by omega
     have hno : (b.ws.any fun k => a.writes k) = false := pair_n fun key hkey => by
      obtain ⟨j, hj, rfl⟩ := List.getElem_of_mem hkey
      exact HR.out j hj _ (List.getElem?_eq_getElem hj)
     have hpc : vc = if b.meets a = true ∧ a.meets b = true then 112 else 0 := EVC.out.trans (by unfold pairCode; rw [hno]; rfl)
     have M1 := HM1.out; have M2 := HM2.out
     cases h1 : a.meets b
     ·have e1 : vc = 0 := hpc.trans (if_neg (by rw [h1]; simp))
      have e2 : vn = 2 := EVN.out.trans (if_pos e1)
      rw [h1] at M1
      rw [e1] at u0
      rw [e2] at u1
      clear hno hpc h1 e1 e2
      go_wp2_with (go_at_call 21; (with_reducible refine (M1 _ (by clear hbW; exact below_auto)).mono ?_); rintro e w12 ⟨rfl, hb12⟩; refine mB hb12 ?_; intro hc12 hf12 hz12; intros)
      go_ret
      exact ⟨rfl, by clear hbw; exact below_auto⟩
     ·cases h2 : b.meets a
      ·have e1 : vc = 0 := hpc.trans (if_neg (by rw [h2]; simp))
       have e2 : vn = 2 := EVN.out.trans (if_pos e1)
       rw [h1] at M1
       rw [h2] at M2
       rw [e1] at u0
       rw [e2] at u1
       clear hno hpc h1 h2 e1 e2
       go_wp2_with (first | ((go_at_call 21; (with_reducible refine (M1 _ (by clear hbW; exact below_auto)).mono ?_); rintro e w12 ⟨rfl, hb12⟩; refine mB hb12 ?_; intro hc12 hf12 hz12; intros); have huU12 : U < w12.heap.size := by omega) | (go_at_call 21; (with_reducible refine (M2 _ (by clear hbW; exact below_auto)).mono ?_); rintro e w13 ⟨rfl, hb13⟩; refine mB hb13 ?_; intro hc13 hf13 hz13; intros))
       go_ret
       exact ⟨rfl, by clear hbw; exact below_auto⟩
      ·have e1 : vc = 112 := hpc.trans (if_pos ⟨h2, h1⟩)
       have e2 : vn = 0 := EVN.out.trans (by rw [e1]; rfl)
       rw [h1] at M1
       rw [h2] at M2
       rw [e1] at u0
       rw [e2] at u1
       clear hno hpc h1 h2 e1 e2
       go_wp2_with (first | ((go_at_call 21; (with_reducible refine (M1 _ (by clear hbW; exact below_auto)).mono ?_); rintro e w12 ⟨rfl, hb12⟩; refine mB hb12 ?_; intro hc12 hf12 hz12; intros); have huU12 : U < w12.heap.size := by omega) | (go_at_call 21; (with_reducible refine (M2 _ (by clear hbW; exact below_auto)).mono ?_); rintro e w13 ⟨rfl, hb13⟩; refine mB hb13 ?_; intro hc13 hf13 hz13; intros))
       go_ret
       exact ⟨rfl, by clear hbw; exact below_auto⟩
end Go.Proofs.YtfbachckdadhoaaGreat.C
