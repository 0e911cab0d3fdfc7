/- The walk of SerialPairs. -/
import Derived.Test.YtekmadgacepdfaaGreatMTQ
import Derived.Deep.CutRange
namespace Go.Proofs.YtekmadgacepdfaaGreat.T
set_option linter.unusedVariables false
open Go.RowKit Fl Go.Shelf
set_option linter.unusedSimpArgs false

def snapS (x : SubV) (n : Int) : SubV := { x with s2 := n }
theorem snapS_at {x : SubV} {n : Int} {w : World} (h : x.At w) : (snapS x n).At w := ⟨h.r, h.s, h.w⟩
def pairL (on back : Bool) : List (Int × Int) := (if on then [(1, 2)] else []) ++ if back then [(2, 1)] else []
theorem pair_edges' {x y : SubV} {seen : Bool} (hx : x.s2 = 0) (hy : y.s2 = if seen then 1 else 0) (hr : rightV [⟨1, x⟩, ⟨2, y⟩] = true) : edgesV [⟨1, x⟩, ⟨2, y⟩] = pairL (onV x y seen) (backV x y seen) := by
 rw [pair_edges hr]
 obtain ⟨h1, h2⟩ := pair_leads (a := ⟨1, x⟩) (b := ⟨2, y⟩) (seen := seen) rfl rfl hx hy
 rw [h1, h2]; rfl
theorem pairL_mem {on back : Bool} {e : Int × Int} (h : e ∈ pairL on back) : (e = (1, 2) ∧ on = true) ∨ (e = (2, 1) ∧ back = true) := by
 unfold pairL at h
 cases on <;> cases back <;> simp at h <;> simp [h]
theorem pairL_len (on back : Bool) : (pairL on back).length = (if on then 1 else 0) + (if back then 1 else 0) := by
 cases on <;> cases back <;> rfl
/-- A submission's box. -/
def SBoxH (w : World) (p : Nat) (x : SubV) : Prop := w.heap[p]? = some (.cells #[.int .i64 x.s0, .int .i64 x.s1, .int .i64 x.s2, .slice x.ra x.rs.length x.rc, .slice x.sa x.ss.length x.sc, .slice x.wa x.ws.length x.wc] 35 (0, 0))
theorem SBoxH.below {w w' : World} {p : Nat} {x : SubV} (h : SBoxH w p x) (hb : Below w.heap.size w w') : SBoxH w' p x := (hb.block p (Array.getElem?_eq_some_iff.1 h).1).trans h
theorem SBoxH.cells {w : World} {p : Nat} {x : SubV} (h : SBoxH w p x) : w.cell? ⟨p, 0, none⟩ = some (.int .i64 x.s0) ∧ w.cell? ⟨p, 1, none⟩ = some (.int .i64 x.s1) ∧ w.cell? ⟨p, 2, none⟩ = some (.int .i64 x.s2) ∧
  w.cell? ⟨p, 3, none⟩ = some (.slice x.ra x.rs.length x.rc) ∧ w.cell? ⟨p, 4, none⟩ = some (.slice x.sa x.ss.length x.sc) ∧ w.cell? ⟨p, 5, none⟩ = some (.slice x.wa x.ws.length x.wc) ∧ p < w.heap.size ∧ w.frozen? ⟨p, 2, none⟩ = false := by
 refine ⟨?_, ?_, ?_, ?_, ?_, ?_, (Array.getElem?_eq_some_iff.1 h).1, by simp [World.frozen?, SBoxH] at h ⊢; rw [h]; rfl⟩ <;> (rw [cell_of_row w p _ _ _ (0, 0) h]; rfl)
theorem SBoxH.snap {w : World} {p : Nat} {x : SubV} (h : SBoxH w p x) (n : Int) : SBoxH (w.setCell ⟨p, 2, none⟩ (.int .i64 n)) p (snapS x n) ∧ w.grownBy (w.setCell ⟨p, 2, none⟩ (.int .i64 n)) (some p) := by
 obtain ⟨h1, h2⟩ := K.set1 (i := 2) h (.int .i64 n)
 exact ⟨h1, h2⟩
theorem SBoxH.other {w w' : World} {p q : Nat} {x : SubV} (h : SBoxH w p x) (hg : w.grownBy w' (some q)) (hne : p ≠ q) : SBoxH w' p x :=
 (hg.block p (Array.getElem?_eq_some_iff.1 h).1 fun e => hne (Option.some.inj e)).trans h
set_option maxHeartbeats 8000000 in
set_option maxRecDepth 100000 in
theorem serialPairs_walk (x y : SubV) (seen : Bool) (w : World) (hx : x.At w) (hy : y.At w) (_ : True) :
  Calls Tryz.prog 11 #[.agg #[.int .i64 x.s0, .int .i64 x.s1, .int .i64 x.s2, .slice x.ra x.rs.length x.rc, .slice x.sa x.ss.length x.sc, .slice x.wa x.ws.length x.wc], .agg #[.int .i64 y.s0, .int .i64 y.s1, .int .i64 y.s2, .slice y.ra y.rs.length y.rc, .slice y.sa y.ss.length y.sc, .slice y.wa y.ws.length y.wc], .bool seen] w (Ret (.bool true) w) := by
 have HXA := hid hx; have HYA := hid hy
 clear hx hy
 go_enter Tryz.func11, Tryz.ntmps11
 go_upto_region 1 with fail
 obtain ⟨W0, hW0⟩ : ∃ W, W = (w.alloc (.cells #[.int .i64 x.s0, .int .i64 x.s1, .int .i64 x.s2, .slice x.ra x.rs.length x.rc, .slice x.sa x.ss.length x.sc, .slice x.wa x.ws.length x.wc] 35)).alloc (.cells #[.int .i64 y.s0, .int .i64 y.s1, .int .i64 y.s2, .slice y.ra y.rs.length y.rc, .slice y.sa y.ss.length y.sc, .slice y.wa y.ws.length y.wc] 35) := ⟨_, rfl⟩
 have hA0 : SBoxH W0 w.heap.size x := by rw [hW0]; exact (Below.heap_alloc _ _ w.heap.size (by simp)).trans (heap_alloc_new w _)
 have hB0 : SBoxH W0 (w.heap.size + 1) y := by rw [hW0]; have := heap_alloc_new (w.alloc (.cells #[.int .i64 x.s0, .int .i64 x.s1, .int .i64 x.s2, .slice x.ra x.rs.length x.rc, .slice x.sa x.ss.length x.sc, .slice x.wa x.ws.length x.wc] 35)) (.cells #[.int .i64 y.s0, .int .i64 y.s1, .int .i64 y.s2, .slice y.ra y.rs.length y.rc, .slice y.sa y.ss.length y.sc, .slice y.wa y.ws.length y.wc] 35); simpa [SBoxH] using this
 have hb0 : Below w.heap.size w W0 := by rw [hW0]; exact ((Below.refl _ w).alloc (Nat.le_refl _) _).alloc (by simp) _
 rw [← hW0]
 clear hW0
 go_upto_region 3 with (go_at_call 25; (with_reducible refine (alive12_any _).mono ?_); rintro e w1 ⟨rfl, hb1⟩; obtain ⟨hc1, hf1⟩ := bcell hb1; (try simp only [World.heap_drewN, World.cell?_drewN, World.frozen?_drewN] at hc1 hf1); have hz1 := hb1.size; (try simp at hz1); (try have hy1_0 : w.heap.size < w1.heap.size := by omega); (try have hy1_1 : w.heap.size + 1 < w1.heap.size := by omega); (try have hx1_0 : w.heap.size ≤ w1.heap.size := by omega); (try have hx1_1 : w.heap.size + 1 ≤ w1.heap.size := by omega))
 have hA1 := hA0.below hb1
 have hB1 := hB0.below hb1
 have hbw1 := hb0.trans (hb1.mono hb0.size)
 clear hA0 hB0 hb0 hb1 hc1 hf1 hz1
 obtain ⟨hA2, g2⟩ := hA1.snap 0
 have hB2 := hB1.other g2 (by omega)
 have hb2 := hbw1.grown g2 hbw1.size (fun k hk => by cases hk; omega)
 obtain ⟨hB3, g3⟩ := hB2.snap 0
 have hA3 := hA2.other g3 (by omega)
 have hb3 := hb2.grown g3 hb2.size (fun k hk => by cases hk; omega)
 obtain ⟨hB4, g4⟩ := hB3.snap 1
 have hA4 := hA3.other g4 (by omega)
 have hb4 := hb3.grown g4 hb3.size (fun k hk => by cases hk; omega)
 obtain ⟨a0, a1, a2, a3, a4, a5, al, af⟩ := hA1.cells
 obtain ⟨e0, e1, e2, e3, e4, e5, el, ef⟩ := hB1.cells
 obtain ⟨w5, hw5⟩ : ∃ w5, w5 = if seen then (((w1.setCell ⟨w.heap.size, 2, none⟩ (.int .i64 0)).setCell ⟨w.heap.size + 1, 2, none⟩ (.int .i64 0)).setCell ⟨w.heap.size + 1, 2, none⟩ (.int .i64 1)) else ((w1.setCell ⟨w.heap.size, 2, none⟩ (.int .i64 0)).setCell ⟨w.heap.size + 1, 2, none⟩ (.int .i64 0)) := ⟨_, rfl⟩
 have hA5 : SBoxH w5 w.heap.size (snapS x 0) := by rw [hw5]; cases seen; exact hA3; exact hA4
 have hB5 : SBoxH w5 (w.heap.size + 1) (snapS y (if seen then 1 else 0)) := by rw [hw5]; cases seen; exact hB3; exact hB4
 have hb5 : Below w.heap.size w w5 := by rw [hw5]; cases seen; exact hb3; exact hb4
 obtain ⟨X, hX⟩ : ∃ X, X = snapS x 0 := ⟨_, rfl⟩
 obtain ⟨Y, hY⟩ : ∃ Y, Y = snapS y (if seen then 1 else 0) := ⟨_, rfl⟩
 rw [← hX] at hA5
 rw [← hY] at hB5
 have HXA2 : Hid (X.At w5) := hid (by rw [hX]; exact (snapS_at HXA.out).below hb5)
 have HYA2 : Hid (Y.At w5) := hid (by rw [hY]; exact (snapS_at HYA.out).below hb5)
 have HX2 : Hid (X.s2 = 0) := hid (by rw [hX]; rfl)
 obtain ⟨sv, hsv⟩ : ∃ sv, sv = seen := ⟨_, rfl⟩
 have HY2 : Hid (Y.s2 = if sv then 1 else 0) := hid (by rw [hY, hsv]; rfl)
 have HSV := hid hsv
 clear hsv
 have HA5 := hid hA5; have HB5 := hid hB5; have HBW5 := hid hb5; have HW5 := hid hw5
 clear hA1 hB1 hbw1 hA2 g2 hB2 hb2 hB3 g3 hA3 hb3 hB4 g4 hA4 hb4 hA5 hB5 hb5 hw5 hX hY HXA HYA
 have hpl : w.heap.size < w5.heap.size := HA5.out.cells.2.2.2.2.2.2.1
 have hql : w.heap.size + 1 < w5.heap.size := HB5.out.cells.2.2.2.2.2.2.1
 go_upto_if 22 with fail
 go_cut [6] from 23 to 23 (fun t6 wc => t6 = .bool false ∧ wc = w5)
 case first =>
  have hw5 := HW5.out
  cases seen
  ·simp only [Bool.false_eq_true, if_false] at hw5
   go_wp2_with fail
   go_meet
   case rel => exact ⟨rfl, hw5.symm⟩
  ·simp only [if_true] at hw5
   go_wp2_with fail
   go_meet
   case rel => exact ⟨rfl, hw5.symm⟩
 case rest =>
  obtain ⟨rfl, hwc⟩ := hcut
  rw [hwc]
  clear hwc HW5 a0 a1 a2 a3 a4 a5 al af e0 e1 e2 e3 e4 e5 el ef
  obtain ⟨p, hp⟩ : ∃ p, p = w.heap.size := ⟨_, rfl⟩
  obtain ⟨q, hq⟩ : ∃ q, q = w.heap.size + 1 := ⟨_, rfl⟩
  rw [← hq] at HB5 hql ⊢
  rw [← hp] at HA5 hpl ⊢
  clear hp hq
  obtain ⟨a0, a1, a2, a3, a4, a5, -, -⟩ := HA5.out.cells
  obtain ⟨e0, e1, e2, e3, e4, e5, -, -⟩ := HB5.out.cells
  have hB := two_hat (d1 := ⟨1, X⟩) (d2 := ⟨2, Y⟩) HXA2.out HYA2.out
  have hbz : Below w5.heap.size w5 (w5.alloc (.cells (dEnc ⟨1, X⟩ ++ dEnc ⟨2, Y⟩).toArray 73 (0, 0))) := Below.alloc1 (Nat.le_refl _) (Below.refl _ _) _
  have HB := hid hB
  have HBZ := hid hbz
  clear hB hbz
  go_upto_region 8 with fail
  have hW : w5.alloc (.cells (dEnc ⟨1, X⟩ ++ dEnc ⟨2, Y⟩).toArray 73 (0, 0)) = w5.alloc (.cells #[.int .i64 1, .int .i64 X.s0, .int .i64 X.s1, .int .i64 X.s2, .slice X.ra X.rs.length X.rc, .slice X.sa X.ss.length X.sc, .slice X.wa X.ws.length X.wc, .int .i64 2, .int .i64 Y.s0, .int .i64 Y.s1, .int .i64 Y.s2, .slice Y.ra Y.rs.length Y.rc, .slice Y.sa Y.ss.length Y.sc, .slice Y.wa Y.ws.length Y.wc] 73) := rfl
  rw [hW] at HB HBZ
  clear hW a0 a1 a2 a3 a4 a5 e0 e1 e2 e3 e4 e5
  have hb56 := HBZ.out
  have hb06 := HBW5.out.trans (hb56.mono HBW5.out.size)
  have HXA6 := hid (HXA2.out.below hb56); have HYA6 := hid (HYA2.out.below hb56)
  have HA6 := hid (HA5.out.below hb56); have HB6 := hid (HB5.out.below hb56)
  have h06 := hb06.size
  have hpl6 := Nat.lt_of_lt_of_le hpl hb56.size
  have hql6 := Nat.lt_of_lt_of_le hql hb56.size
  clear hb56 HBZ HBW5 HXA2 HYA2 HA5 HB5 hpl hql
  generalize w5.alloc (.cells #[.int .i64 1, .int .i64 X.s0, .int .i64 X.s1, .int .i64 X.s2, .slice X.ra X.rs.length X.rc, .slice X.sa X.ss.length X.sc, .slice X.wa X.ws.length X.wc, .int .i64 2, .int .i64 Y.s0, .int .i64 Y.s1, .int .i64 Y.s2, .slice Y.ra Y.rs.length Y.rc, .slice Y.sa Y.ss.length Y.sc, .slice Y.wa Y.ws.length Y.wc] 73) = w6 at *
  generalize w5.heap.size = P6 at *
  have HED := hid (edges_any (some ⟨P6, 0, none⟩) 2 2 _ w6 rfl (Nat.le_refl _) HB.out)
  have HRT := hid fun W (hb : Below w6.heap.size w6 W) v (hv : rightV [⟨1, X⟩, ⟨2, Y⟩] = v) => right_any (some ⟨P6, 0, none⟩) 2 2 _ v W rfl (Nat.le_refl _) (HB.out.below hb) hv
  clear HB
  go_wp2_with fail
  refine HED.out.mono ?_
  rintro e w7 ⟨ae, ce, rfl, hE, hb7⟩
  obtain ⟨rv, hrv⟩ : ∃ rv, rightV [⟨1, X⟩, ⟨2, Y⟩] = rv := ⟨_, rfl⟩
  have HRW := hid (HRT.out w7 hb7 rv hrv)
  have HRV := hid hrv
  have HE7 := hid hE
  clear HED HRT hE hrv
  cases rv
  ·have hed : edgesV [⟨1, X⟩, ⟨2, Y⟩] = [] := by unfold edgesV; rw [HRV.out]; rfl
   rw [hed]
   simp only [List.length_nil]
   clear hed HE7
   have hbw7 := hb06.trans (hb7.mono h06)
   clear hb7
   go_wp2_with fail
   refine HRW.out.mono ?_
   rintro e w8 ⟨rfl, hb8⟩
   have hfin := hbw7.trans (hb8.mono hbw7.size)
   clear HRW
   go_wp2_with fail
   go_ret
   exact ⟨rfl, hfin⟩
  go_wp2_with fail
  refine HRW.out.mono ?_
  rintro e w8 ⟨rfl, hb8⟩
  have hb68 := hb7.trans (hb8.mono hb7.size)
  have HE8 := hid (own_keep HE7.out fun q cur _ hq => hb8.block q (Array.getElem?_eq_some_iff.1 hq).1)
  have HED := hid (pair_edges' HX2.out HY2.out HRV.out)
  have HA8 := hid (HA6.out.below hb68); have HB8 := hid (HB6.out.below hb68)
  have HXA8 := hid (HXA6.out.below hb68); have HYA8 := hid (HYA6.out.below hb68)
  have hb08 := hb06.trans (hb68.mono h06)
  have h08 := hb08.size
  obtain ⟨on, hon⟩ : ∃ on, on = onV X Y sv := ⟨_, rfl⟩
  obtain ⟨back, hback⟩ : ∃ back, back = backV X Y sv := ⟨_, rfl⟩
  rw [← hon, ← hback] at HED
  obtain ⟨l, hl⟩ : ∃ l, l = edgesV [⟨1, X⟩, ⟨2, Y⟩] := ⟨_, rfl⟩
  rw [← hl] at HE8 HED ⊢
  obtain ⟨E, hEe⟩ : ∃ E, E = l.length := ⟨_, rfl⟩
  rw [← hEe] at HE8 ⊢
  have HEE := hid hEe
  have HON := hid hon; have HBK := hid hback
  have hpl8 := Nat.lt_of_lt_of_le hpl6 hb68.size
  have hql8 := Nat.lt_of_lt_of_le hql6 hb68.size
  clear HRW HE7 hb7 hb8 hb68 HA6 HB6 HXA6 HYA6 hb06 hl hEe hon hback hpl6 hql6
  obtain ⟨nw, hnw⟩ : ∃ nw, nw = X.ws.length := ⟨_, rfl⟩
  obtain ⟨a0, a1, a2, a3, a4, a5, -, -⟩ := HA8.out.cells
  obtain ⟨e0, e1, e2, e3, e4, e5, -, -⟩ := HB8.out.cells
  rw [← hnw] at a5
  have HNW := hid hnw
  have hml := HXA8.out.w.len
  rw [← hnw] at hml
  unfold maxLen at hml
  have HWR := hid fun key W (hb : Below w8.heap.size w8 W) => refWrites_any Y key W (HYA8.out.below hb)
  have HM1 := hid fun W (hb : Below w8.heap.size w8 W) => refMeets04_any Y X W (HYA8.out.below hb) (HXA8.out.below hb)
  have HM2 := hid fun W (hb : Below w8.heap.size w8 W) => refMeets04_any X Y W (HXA8.out.below hb) (HYA8.out.below hb)
  have HFW := hid HXA8.out.w
  obtain ⟨xa, hxa⟩ : ∃ xa, xa = X.wa := ⟨_, rfl⟩
  rw [← hxa] at a5 HFW
  clear hnw hxa
  go_upto_region 13 with fail
  clear a0 a1 a2 a3 a4 a5 e0 e1 e2 e3 e4 e5
  go_loopw [9, 40] (fun t9 t40 wr => ∃ k : Nat, t40 = .int .i64 (k : Nat) ∧ t9 = .bool ((X.ws.take k).any fun key => Y.writes key) ∧ k ≤ nw ∧ Below w8.heap.size w8 wr) (fun _ t40 _ => nw - (intOf t40).toNat)
  case atStart => exact ⟨0, rfl, rfl, Nat.zero_le _, Below.refl _ _⟩
  case round =>
   obtain ⟨k, rfl, rfl, hk, hbk⟩ := hrel
   have hzk := hbk.size
   obtain ⟨a0, a1, a2, a3, a4, a5, -, -⟩ := (HA8.out.below hbk).cells
   obtain ⟨e0, e1, e2, e3, e4, e5, -, -⟩ := (HB8.out.below hbk).cells
   have hplr := Nat.lt_of_lt_of_le hpl8 hzk
   have hqlr := Nat.lt_of_lt_of_le hql8 hzk
   by_cases hkn : k < nw
   ·have hkn' : (k : Int) < (nw : Int) := by omega
    have hkl : k < X.ws.length := by rw [← HNW.out]; exact hkn
    have hkx : Hid (X.ws[k]? = some (X.ws[k]?.getD 0)) := hid (fl_some hkl)
    rcases (HFW.out.below hbk).row with h0 | ⟨g, o, hag, hbl, hc⟩
    ·rw [h0] at hkl; simp at hkl
    have hc := hc k hkl
    subst hag
    clear hkl
    generalize X.ws[k]?.getD 0 = key at *
    have hsn : Hid (((X.ws.take (k + 1)).any fun key => Y.writes key) = (((X.ws.take k).any fun key => Y.writes key) || Y.writes key)) := hid (by
     rw [List.take_add_one, hkx.out, List.any_append]; simp)
    have HW := HWR.out key
    generalize (X.ws.take k).any (fun key => Y.writes key) = wv at *
    generalize Y.writes key = bw at *
    cases wv
    ·have HS : Hid (bw = (X.ws.take (k + 1)).any fun key => Y.writes key) := hid (by rw [hsn.out]; rfl)
     clear hsn a0 a1 a2 a3 a4 a5
     go_wp2_with (go_at_call 38; (with_reducible refine (HW _ (by exact below_auto)).mono ?_); rintro e w1 ⟨rfl, hb1⟩; obtain ⟨hc1, hf1⟩ := bcell hb1; (try simp only [World.heap_drewN, World.cell?_drewN, World.frozen?_drewN] at hc1 hf1); have hz1 := hb1.size; (try simp at hz1); (try have hy1_0 : w.heap.size < w1.heap.size := by omega); (try have hy1_1 : w.heap.size + 1 < w1.heap.size := by omega); (try have hx1_0 : w.heap.size ≤ w1.heap.size := by omega); (try have hx1_1 : w.heap.size + 1 ≤ w1.heap.size := by omega); (try have hu1_wr_0 : wr.heap.size < w1.heap.size := by omega))
     go_roundw
     case rel => exact ⟨k + 1, by go_num, by rw [← HS.out], by omega, by exact below_auto⟩
     case measure => simp [intOf]; omega
    ·have HS : Hid (true = (X.ws.take (k + 1)).any fun key => Y.writes key) := hid (by rw [hsn.out]; rfl)
     clear hsn HW a0 a1 a2 a3 a4 a5
     go_wp2_with fail
     go_roundw
     case rel => exact ⟨k + 1, by go_num, by rw [← HS.out], by omega, hbk⟩
     case measure => simp [intOf]; omega
   ·obtain rfl : k = nw := by omega
    have hge : ¬ (k : Int) < (k : Int) := by omega
    have htk : X.ws.take k = X.ws := by rw [HNW.out, List.take_length]
    rw [htk]
    obtain ⟨wo, rfl⟩ : ∃ x, x = wr := ⟨_, rfl⟩
    have hon := HON.out
    have hbk' := HBK.out
    unfold onV at hon
    unfold backV at hbk'
    have HM1 := fun W hb => HM1.out W (hbk.trans (Below.mono hb hzk))
    have HM2 := fun W hb => HM2.out W (hbk.trans (Below.mono hb hzk))
    generalize X.ws.any (fun key => Y.writes key) = wv at *
    generalize Y.meets X = m1 at *
    generalize X.meets Y = m2 at *
    have hsv := HSV.out
    subst hsv
    have HON := hid hon; have HBK := hid hbk'
    clear hon hbk' HWR htk HSV
    go_upto_region 17 with fail
    go_cut [12] from 51 to 64 (fun t12 wc => t12 = .bool on ∧ Below wo.heap.size wo wc)
    case first =>
     have hon := HON.out
     clear HON HBK HED
     cases wv
     ·cases sv
      ·obtain rfl : on = m2 := by simpa using hon
       clear hon
       go_wp2_with (go_at_call 39; (with_reducible refine (HM2 _ (by exact below_auto)).mono ?_); rintro e w1 ⟨rfl, hb1⟩; obtain ⟨hc1, hf1⟩ := bcell hb1; (try simp only [World.heap_drewN, World.cell?_drewN, World.frozen?_drewN] at hc1 hf1); have hz1 := hb1.size; (try simp at hz1); (try have hy1_0 : w.heap.size < w1.heap.size := by omega); (try have hy1_1 : w.heap.size + 1 < w1.heap.size := by omega); (try have hx1_0 : w.heap.size ≤ w1.heap.size := by omega); (try have hx1_1 : w.heap.size + 1 ≤ w1.heap.size := by omega); (try have hu1_wo_0 : wo.heap.size < w1.heap.size := by omega))
       go_meet
       case rel => exact ⟨rfl, hb1⟩
      ·cases m1
       ·obtain rfl : on = m2 := by simpa using hon
        clear hon
        have HMM := HM1 _ (Below.refl _ _)
        go_wp2_with fail
        refine HMM.mono ?_
        rintro e w1 ⟨rfl, hb1⟩
        have HMM2 := HM2 _ hb1
        have hz1 := hb1.size
        have hb81 := hbk.trans (hb1.mono hzk)
        have hp1 := Nat.lt_of_lt_of_le hplr hz1
        have hq1 := Nat.lt_of_lt_of_le hqlr hz1
        clear a0 a1 a2 a3 a4 a5 e0 e1 e2 e3 e4 e5
        obtain ⟨a0, a1, a2, a3, a4, a5, -, -⟩ := (HA8.out.below hb81).cells
        obtain ⟨e0, e1, e2, e3, e4, e5, -, -⟩ := (HB8.out.below hb81).cells
        clear hb81
        go_wp2_with fail
        refine HMM2.mono ?_
        rintro e w2 ⟨rfl, hb2⟩
        have hb3 := hb1.trans (hb2.mono hb1.size)
        clear hb1 hb2 HMM HMM2
        go_wp2_with fail
        go_meet
        case rel => exact ⟨rfl, hb3⟩
       ·obtain rfl : on = true := by simpa using hon
        clear hon
        go_wp2_with (go_at_call 39; (with_reducible refine (HM1 _ (by exact below_auto)).mono ?_); rintro e w1 ⟨rfl, hb1⟩; obtain ⟨hc1, hf1⟩ := bcell hb1; (try simp only [World.heap_drewN, World.cell?_drewN, World.frozen?_drewN] at hc1 hf1); have hz1 := hb1.size; (try simp at hz1); (try have hy1_0 : w.heap.size < w1.heap.size := by omega); (try have hy1_1 : w.heap.size + 1 < w1.heap.size := by omega); (try have hx1_0 : w.heap.size ≤ w1.heap.size := by omega); (try have hx1_1 : w.heap.size + 1 ≤ w1.heap.size := by omega); (try have hu1_wo_0 : wo.heap.size < w1.heap.size := by omega))
        go_meet
        case rel => exact ⟨rfl, hb1⟩
     ·obtain rfl : on = true := by simpa using hon
      clear hon
      go_wp2_with fail
      go_meet
      case rel => exact ⟨rfl, Below.refl _ _⟩
    case rest =>
     obtain ⟨rfl, hbc⟩ := hcut
     obtain ⟨w9, rfl⟩ : ∃ x, x = wc := ⟨_, rfl⟩
     clear a0 a1 a2 a3 a4 a5 e0 e1 e2 e3 e4 e5
     have HM1 := fun W hb => HM1 W (hbc.trans (Below.mono hb hbc.size))
     have hzc := hbc.size
     have hplc := Nat.lt_of_lt_of_le hplr hzc
     have hqlc := Nat.lt_of_lt_of_le hqlr hzc
     have hb8c := hbk.trans (hbc.mono hzk)
     obtain ⟨a0, a1, a2, a3, a4, a5, -, -⟩ := (HA8.out.below hb8c).cells
     obtain ⟨e0, e1, e2, e3, e4, e5, -, -⟩ := (HB8.out.below hb8c).cells
     go_upto_region 18 with fail
     go_cut [13] from 65 to 71 (fun t13 wd => t13 = .bool back ∧ Below w9.heap.size w9 wd)
     case first =>
      have hbk2 := HBK.out
      clear HON HBK HED
      cases sv
      ·obtain rfl : back = m1 := by simpa using hbk2
       clear hbk2
       have HMM := HM1 _ (Below.refl _ _)
       go_wp2_with fail
       refine HMM.mono ?_
       rintro e w1 ⟨rfl, hb1⟩
       clear HMM
       go_wp2_with fail
       go_meet
       case rel => exact ⟨rfl, hb1⟩
      ·obtain rfl : back = false := by simpa using hbk2
       clear hbk2
       go_wp2_with fail
       go_meet
       case rel => exact ⟨rfl, Below.refl _ _⟩
     case rest =>
      obtain ⟨rfl, hbd⟩ := hcut
      have hb8d := hb8c.trans (hbd.mono (Nat.le_trans hzk hzc))
      clear a0 a1 a2 a3 a4 a5 e0 e1 e2 e3 e4 e5 HM1 HM2 hbd hb8c hplc hqlc HON HBK
      obtain ⟨wt, rfl⟩ : ∃ x, x = wc := ⟨_, rfl⟩
      have hzt := hb8d.size
      have hE2 : E ≤ 2 := by
       rw [HEE.out, HED.out, pairL_len]
       cases on <;> cases back <;> decide
      have hbt := hb08.trans (hb8d.mono h08)
      have hzt2 := hbt.size
      go_upto_region 21 with fail
      go_loopw [14, 74] (fun t14 t74 wx => ∃ i : Nat, t74 = .int .i64 (i : Nat) ∧ t14 = .int .i64 (i : Nat) ∧ i ≤ E ∧ Below wt.heap.size wt wx) (fun _ t74 _ => E - (intOf t74).toNat)
      case atStart => exact ⟨0, rfl, rfl, Nat.zero_le _, Below.refl _ _⟩
      case round =>
       obtain ⟨i, rfl, rfl, hi, hbi⟩ := hrel
       by_cases hiE : i < E
       ·have hiE' : (i : Int) < (E : Int) := by omega
        have hil : i < l.length := by rw [← HEE.out]; exact hiE
        have hrow := HE8.out
        rcases hrow.2 with ⟨_, h2⟩ | ⟨g, cap, cur, h1, -⟩
        ·omega
        injection h1 with ha2 _ hcap2
        subst ha2; subst hcap2
        have q0 := hrow.cells (g := g) rfl (i * 2 + 0) _ (eCells_at hil (t := 0) rfl)
        have q1 := hrow.cells (g := g) rfl (i * 2 + 1) _ (eCells_at hil (t := 1) rfl)
        rw [K.addr0] at q0 q1
        rw [Nat.add_zero] at q0
        have hgl := (hrow.lt g rfl).2
        have hbr := hb8d.trans (hbi.mono hzt)
        have r0 := (hbr.cell (p := ⟨g, i * 2, none⟩) hgl).trans q0
        have r1 := (hbr.cell (p := ⟨g, i * 2 + 1, none⟩) hgl).trans q1
        have hgr : g < wr.heap.size := Nat.lt_of_lt_of_le hgl hbr.size
        have hmm : ∀ z ∈ l, z ∈ pairL on back := fun z hz => by rw [← HED.out]; exact hz
        have hm := pairL_mem (hmm _ (List.getElem_mem hil))
        clear hrow q0 q1 hgl hbr hmm
        generalize l[i] = ed at *
        have hwi := hbi.size
        rcases hm with ⟨rfl, rfl⟩ | ⟨rfl, rfl⟩
        all_goals
         simp only at r0 r1
         go_wp2_with fail
         go_roundw
         case rel => exact ⟨i + 1, by go_num, by go_num, by omega, hbi.alloc hwi _⟩
         case measure => simp [intOf]; omega
       ·obtain rfl : i = E := by omega
        have hge : ¬ (i : Int) < (i : Int) := by omega
        have hEn := HEE.out
        rw [HED.out, pairL_len] at hEn
        have hfin := hbt.trans (hbi.mono hzt2)
        clear HEE HED HE8 hi hiE
        cases on <;> cases back
        all_goals
         simp only [if_true, Bool.false_eq_true, if_false, Nat.add_zero, Nat.zero_add, Nat.reduceAdd] at hEn
         subst hEn
         go_wp2_with fail
         go_ret
         exact ⟨rfl, hfin⟩
end Go.Proofs.YtekmadgacepdfaaGreat.T
