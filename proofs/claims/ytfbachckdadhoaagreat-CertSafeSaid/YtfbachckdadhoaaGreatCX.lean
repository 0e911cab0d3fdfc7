/- Have two submissions nothing in common: the walk of apart; a submission with its Snap: the walk of snap. -/
import Derived.Test.YtfbachckdadhoaaGreatCV
import Derived.Test.YtfbachckdadhoaaGreatCU
namespace Go.Proofs.YtfbachckdadhoaaGreat.C
set_option linter.unusedVariables false
open Go.RowKit Fl
set_option linter.unusedSimpArgs false

theorem apart_no1 {a b : SubV} {key : Nat} (h : key ∈ a.ws) (hr : b.reads key = true) : apartV a b = false := by
 unfold apartV
 rw [show (a.ws.all fun k => !(b.reads k) && !(b.writes k)) = false from List.all_eq_false.2 ⟨key, h, by rw [hr]; simp⟩]
 rfl
theorem apart_no2 {a b : SubV} {key : Nat} (h : key ∈ a.ws) (hr : b.writes key = true) : apartV a b = false := by
 unfold apartV
 rw [show (a.ws.all fun k => !(b.reads k) && !(b.writes k)) = false from List.all_eq_false.2 ⟨key, h, by rw [hr]; simp⟩]
 rfl
theorem apart_end {a b : SubV} (h : ∀ key ∈ a.ws, b.reads key = false ∧ b.writes key = false) : apartV a b = !(a.meets b) := by
 unfold apartV
 rw [show (a.ws.all fun k => !(b.reads k) && !(b.writes k)) = true from List.all_eq_true.2 fun k hk => by rw [(h k hk).1, (h k hk).2]; rfl]
 exact Bool.true_and _
set_option maxHeartbeats 4000000 in
set_option maxRecDepth 100000 in
theorem apart11_any (a b : SubV) (w : World) (ha : a.At w) (hb : b.At w) : Calls Tryz.prog 17 #[.agg #[.int .i64 a.s0, .int .i64 a.s1, .int .i64 a.s2, .slice a.ra a.rs.length a.rc, .slice a.sa a.ss.length a.sc, .slice a.wa a.ws.length a.wc], .agg #[.int .i64 b.s0, .int .i64 b.s1, .int .i64 b.s2, .slice b.ra b.rs.length b.rc, .slice b.sa b.ss.length b.sc, .slice b.wa b.ws.length b.wc]] w (Ret (.bool (apartV a b)) w) := by
 have hm := ha.w.len
 unfold maxLen at hm
 have HWt := hid (fat_get ha.w)
 obtain ⟨av, hav⟩ : ∃ v, v = apartV a b := ⟨_, rfl⟩
 have HAV := hid hav
 rw [← hav]
 clear hav
 have HAt := hid ha; have HBt := hid hb
 clear ha hb
 go_enter Tryz.func17, Tryz.ntmps17
 go_upto_region 1 with fail
 generalize hW1 : World.alloc _ _ = w1
 have hA1 : Below w.heap.size w w1 := by rw [← hW1]; exact below_auto
 have q0 : w1.heap[w.heap.size]? = some (.cells #[.int .i64 a.s0, .int .i64 a.s1, .int .i64 a.s2, .slice a.ra a.rs.length a.rc, .slice a.sa a.ss.length a.sc, .slice a.wa a.ws.length a.wc] 32 (0, 0)) := by rw [← hW1]; exact (two_alloc w _ _).1
 have q1 : w1.heap[w.heap.size + 1]? = some (.cells #[.int .i64 b.s0, .int .i64 b.s1, .int .i64 b.s2, .slice b.ra b.rs.length b.rc, .slice b.sa b.ss.length b.sc, .slice b.wa b.ws.length b.wc] 32 (0, 0)) := by rw [← hW1]; exact (two_alloc w _ _).2
 have HAb := hid fun W (h : Below w1.heap.size w1 W) => hA1.trans (h.mono hA1.size)
 have HRR := hid fun W (hw : Below w1.heap.size w1 W) key => refReads_any b key W (HBt.out.below (HAb.out W hw))
 have HRW := hid fun W (hw : Below w1.heap.size w1 W) key => refWrites_any b key W (HBt.out.below (HAb.out W hw))
 have HM := hid fun W (hw : Below w1.heap.size w1 W) => refMeets04_any a b W (HAt.out.below (HAb.out W hw)) (HBt.out.below (HAb.out W hw))
 have hbA := hA1.size
 have HWt' := hid fun (wr : World) (hbw : Below w1.heap.size w1 wr) (g o : Nat) v (hg : g < w.heap.size) (hc : w.cell? ⟨g, o, none⟩ = some v) => ((HAb.out wr hbw).cell (p := ⟨g, o, none⟩) hg).trans hc
 clear hW1 hA1
 obtain ⟨b0, b1, b2, b3, b4, b5⟩ := row6 q0
 go_upto_region 2 with fail
 go_loopw [10] (fun i wr => ∃ k : Nat, k ≤ a.ws.length ∧ i = .int .i64 k ∧ Hid (∀ j : Nat, j < k → ∀ key, a.ws[j]? = some key → b.reads key = false ∧ b.writes key = false) ∧ Below w1.heap.size w1 wr) (fun i _ => a.ws.length - (intOf i).toNat)
 case atStart => exact ⟨0, Nat.zero_le _, rfl, hid (fun j hj => absurd hj (Nat.not_lt_zero _)), Below.refl _ _⟩
 case round =>
  clear b0 b1 b2 b3 b4 b5
  obtain ⟨k, hk, rfl, HR, hbw⟩ := hrel
  have r0 := (hbw.block _ (Array.getElem?_eq_some_iff.1 q0).1).trans q0
  have r1 := (hbw.block _ (Array.getElem?_eq_some_iff.1 q1).1).trans q1
  obtain ⟨b0, b1, b2, b3, b4, b5⟩ := row6 r0
  obtain ⟨d0, d1, d2, d3, d4, d5⟩ := row6 r1
  have hlA : w.heap.size < wr.heap.size := (Array.getElem?_eq_some_iff.1 r0).1
  have hlB : w.heap.size + 1 < wr.heap.size := (Array.getElem?_eq_some_iff.1 r1).1
  have hsz := hbw.size
  clear q0 q1 r0 r1
  by_cases hlt : k < a.ws.length
  ·obtain ⟨g, o, hwa, hg, c0, hkey⟩ := HWt.out k hlt
   have hlt' : (k : Int) < (a.ws.length : Int) := by omega
   have hkx := hid (fl_some (xs := a.ws) (k := k) hlt)
   have cc := HWt'.out wr hbw _ _ _ hg c0
   generalize a.ws[k]?.getD 0 = key at *
   have HK1 := fun W hb => HRR.out W hb key hkey
   have HK2 := fun W hb => HRW.out W hb key
   have hmem := hid (List.mem_of_getElem? hkx.out)
   rw [hwa]
   clear c0 hkey hg
   cases hp : b.reads key
   ·rw [hp] at HK1
    cases hq : b.writes key
    ·rw [hq] at HK2
     have HP := hid (And.intro hp hq)
     clear hp hq
     go_wp2_with (first | (go_at_call 42; (with_reducible refine (HK1 _ (by exact below_auto)).mono ?_); rintro e w2 ⟨rfl, hb2⟩; refine mB hb2 ?_; intro hc2 hf2 hz2; intros) | (go_at_call 20; (with_reducible refine (HK2 _ (by exact below_auto)).mono ?_); rintro e w3 ⟨rfl, hb3⟩; refine mB hb3 ?_; intro hc3 hf3 hz3; intros))
     go_roundw
     case rel => exact ⟨k + 1, by omega, by go_num, hid (fun j hj y hy => by
       by_cases h : j < k
       ·exact HR.out j h y hy
       ·obtain rfl : j = k := by omega
        rw [hkx.out] at hy; cases hy; exact HP.out), by exact below_auto⟩
     case measure => simp [intOf]; omega
    ·rw [hq] at HK2
     have HV := hid (apart_no2 hmem.out hq)
     clear hp hq
     go_wp2_with (first | (go_at_call 42; (with_reducible refine (HK1 _ (by exact below_auto)).mono ?_); rintro e w2 ⟨rfl, hb2⟩; refine mB hb2 ?_; intro hc2 hf2 hz2; intros) | (go_at_call 20; (with_reducible refine (HK2 _ (by exact below_auto)).mono ?_); rintro e w3 ⟨rfl, hb3⟩; refine mB hb3 ?_; intro hc3 hf3 hz3; intros))
     go_ret
     exact ⟨ret_bool (HAV.out.trans HV.out).symm, HAb.out _ (by exact below_auto)⟩
   ·rw [hp] at HK1
    have HV := hid (apart_no1 hmem.out hp)
    clear hp
    go_wp2_with (first | (go_at_call 42; (with_reducible refine (HK1 _ (by exact below_auto)).mono ?_); rintro e w2 ⟨rfl, hb2⟩; refine mB hb2 ?_; intro hc2 hf2 hz2; intros) | (go_at_call 20; (with_reducible refine (HK2 _ (by exact below_auto)).mono ?_); rintro e w3 ⟨rfl, hb3⟩; refine mB hb3 ?_; intro hc3 hf3 hz3; intros))
    go_ret
    exact ⟨ret_bool (HAV.out.trans HV.out).symm, HAb.out _ (by exact below_auto)⟩
  ·obtain rfl : k = a.ws.length := by omega
   have hge : ¬ (a.ws.length : Int) < (a.ws.length : Int) := by omega
   have hv := apart_end (a := a) (b := b) fun key hkey => by
    obtain ⟨j, hj, rfl⟩ := List.getElem_of_mem hkey
    exact HR.out j hj _ (List.getElem?_eq_getElem hj)
   have HMM := HM.out
   have HV := hid (HAV.out.trans hv).symm
   clear hv HAV
   generalize a.meets b = v at *
   go_wp2_with (go_at_call 21; (with_reducible refine (HMM _ (by exact below_auto)).mono ?_); rintro e w2 ⟨rfl, hb2⟩; refine mB hb2 ?_; intro hc2 hf2 hz2; intros)
   go_ret
   exact ⟨ret_bool HV.out, HAb.out _ (by exact below_auto)⟩

def snapV (x : SubV) (n : Int) : SubV := if x.s2 < 0 ∧ -50 < x.s2 then { x with s2 := max (n + 1 + x.s2) 0 } else x
theorem snapV_at {x : SubV} {w : World} (h : x.At w) (n : Int) : (snapV x n).At w := by
 unfold snapV
 split
 ·exact ⟨h.r, h.s, h.w⟩
 ·exact h
theorem set6 {w : World} {g : Nat} {T : TypeId} {a0 a1 a2 a3 a4 a5 : Value} (h : w.heap[g]? = some (.cells #[a0, a1, a2, a3, a4, a5] T (0, 0))) (v0 v1 v2 v3 v4 v5 : Value) :
  ((((((w.setCell ⟨g, 0, none⟩ v0).setCell ⟨g, 1, none⟩ v1).setCell ⟨g, 2, none⟩ v2).setCell ⟨g, 3, none⟩ v3).setCell ⟨g, 4, none⟩ v4).setCell ⟨g, 5, none⟩ v5).heap[g]? = some (.cells #[v0, v1, v2, v3, v4, v5] T (0, 0)) ∧
  w.grownBy ((((((w.setCell ⟨g, 0, none⟩ v0).setCell ⟨g, 1, none⟩ v1).setCell ⟨g, 2, none⟩ v2).setCell ⟨g, 3, none⟩ v3).setCell ⟨g, 4, none⟩ v4).setCell ⟨g, 5, none⟩ v5) (some g) := by
 obtain ⟨q0, k0⟩ := K.set1 (i := 0) h v0
 obtain ⟨q1, k1⟩ := K.set1 (i := 1) q0 v1
 obtain ⟨q2, k2⟩ := K.set1 (i := 2) q1 v2
 obtain ⟨q3, k3⟩ := K.set1 (i := 3) q2 v3
 obtain ⟨q4, k4⟩ := K.set1 (i := 4) q3 v4
 obtain ⟨q5, k5⟩ := K.set1 (i := 5) q4 v5
 exact ⟨q5, ((((k0.trans k1).trans k2).trans k3).trans k4).trans k5⟩
set_option maxHeartbeats 4000000 in
set_option maxRecDepth 100000 in
theorem snap11_any (x y : SubV) (n : Int) (w : World) (h0 : 0 ≤ n ∧ n ≤ 1099511627776) (hy : snapV x n = y) : Calls Tryz.prog 13 #[.agg #[.int .i64 x.s0, .int .i64 x.s1, .int .i64 x.s2, .slice x.ra x.rs.length x.rc, .slice x.sa x.ss.length x.sc, .slice x.wa x.ws.length x.wc], .int .i64 n] w (Ret (.agg #[.int .i64 y.s0, .int .i64 y.s1, .int .i64 y.s2, .slice y.ra y.rs.length y.rc, .slice y.sa y.ss.length y.sc, .slice y.wa y.ws.length y.wc]) w) := by
 obtain ⟨s0, s1, s2, ra, rc, rs, sa, sc, ss, wa, wc, ws⟩ := x
 unfold snapV at hy
 simp only at hy ⊢
 by_cases h1 : s2 < 0
 ·by_cases h2 : -50 < s2
  ·rw [if_pos ⟨h1, h2⟩] at hy
   subst hy
   simp only
   generalize rs.length = n1 at *
   generalize ss.length = n2 at *
   generalize ws.length = n3 at *
   go_enter Tryz.func13, Tryz.ntmps13
   go_wp2
   exact bodyPost_ret (v := .agg #[.int .i64 s0, .int .i64 s1, .int .i64 (max (n + 1 + s2) 0), .slice ra n1 rc, .slice sa n2 sc, .slice wa n3 wc]) (by simp [results, Tryz.results13, go_sem, *]) rfl ⟨rfl, by exact below_auto⟩
  ·rw [if_neg (fun h => h2 h.2)] at hy
   subst hy
   simp only
   generalize rs.length = n1 at *
   generalize ss.length = n2 at *
   generalize ws.length = n3 at *
   go_enter Tryz.func13, Tryz.ntmps13
   go_wp2
   exact bodyPost_ret (v := .agg #[.int .i64 s0, .int .i64 s1, .int .i64 s2, .slice ra n1 rc, .slice sa n2 sc, .slice wa n3 wc]) (by simp [results, Tryz.results13, go_sem, *]) rfl ⟨rfl, by exact below_auto⟩
 ·rw [if_neg (fun h => h1 h.1)] at hy
  subst hy
  simp only
  generalize rs.length = n1 at *
  generalize ss.length = n2 at *
  generalize ws.length = n3 at *
  go_enter Tryz.func13, Tryz.ntmps13
  go_wp2
  exact bodyPost_ret (v := .agg #[.int .i64 s0, .int .i64 s1, .int .i64 s2, .slice ra n1 rc, .slice sa n2 sc, .slice wa n3 wc]) (by simp [results, Tryz.results13, go_sem, *]) rfl ⟨rfl, by exact below_auto⟩
end Go.Proofs.YtfbachckdadhoaaGreat.C
