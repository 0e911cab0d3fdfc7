/- Does one submission read what another one writes: the program's function and the document's. -/
import Derived.Test.YtekmadgacepdfaaGreatMS
namespace Go.Proofs.YtekmadgacepdfaaGreat
set_option linter.unusedVariables false
open Go.RowKit Fl

theorem size2 (w : World) (a b : Obj) : w.heap.size < ((w.alloc a).alloc b).heap.size := by simp; omega
theorem subMeets_any (x y : SubV) (w : World) (hx : x.At w) (hy : y.At w) :
  Calls Tryz.prog 92 #[.agg #[.int .i64 x.s0, .int .i64 x.s1, .int .i64 x.s2, .slice x.ra x.rs.length x.rc, .slice x.sa x.ss.length x.sc, .slice x.wa x.ws.length x.wc], .agg #[.int .i64 y.s0, .int .i64 y.s1, .int .i64 y.s2, .slice y.ra y.rs.length y.rc, .slice y.sa y.ss.length y.sc, .slice y.wa y.ws.length y.wc]] w (Ret (.bool (x.meets y)) w) := by
 have H := fun W (hb : Below w.heap.size w W) hB => slContainsFuncF_any x y.wa y.wc w.heap.size y.ws y.ws.length W rfl (hy.w.below hb) (hx.below hb) hB
 unfold SubV.meets
 generalize (y.ws.any fun k => x.reads k) = v at *
 generalize x.rs.length = n1 at *
 generalize x.ss.length = n2 at *
 generalize x.ws.length = n3 at *
 generalize y.rs.length = n4 at *
 generalize y.ss.length = n5 at *
 generalize y.ws.length = n6 at *
 go_enter Tryz.func92, Tryz.ntmps92
 go_wp2_with (go_at_call 95; (with_reducible refine (H _ (by exact below_auto) (size2 _ _ _) (by go_simp) (by go_simp) (by go_simp) (by go_simp) (by go_simp) (by go_simp)).mono ?_); rintro e w1 ⟨rfl, hb1⟩; obtain ⟨hc1, hf1⟩ := bcell hb1; (try simp only [World.heap_drewN, World.cell?_drewN, World.frozen?_drewN] at hc1 hf1); have hz1 := hb1.size; (try simp at hz1); (try have hy1_0 : w.heap.size < w1.heap.size := by omega); (try have hy1_1 : w.heap.size + 1 < w1.heap.size := by omega); (try have hy1_2 : w.heap.size + 2 < w1.heap.size := by omega); (try have hy1_3 : w.heap.size + 3 < w1.heap.size := by omega); (try have hx1_0 : w.heap.size ≤ w1.heap.size := by omega); (try have hx1_1 : w.heap.size + 1 ≤ w1.heap.size := by omega); (try have hx1_2 : w.heap.size + 2 ≤ w1.heap.size := by omega))
 go_ret
 exact ⟨rfl, by exact below_auto⟩

theorem cells66 {w : World} {x0 x1 x2 x3 x4 x5 y0 y1 y2 y3 y4 y5 : Value} {T : TypeId} {wr : World} (h : Below (w.heap.size + 2) ((w.alloc (.cells #[x0, x1, x2, x3, x4, x5] T (0, 0))).alloc (.cells #[y0, y1, y2, y3, y4, y5] T (0, 0))) wr) :
  (wr.cell? ⟨w.heap.size, 0, none⟩ = some x0 ∧ wr.cell? ⟨w.heap.size, 1, none⟩ = some x1 ∧ wr.cell? ⟨w.heap.size, 2, none⟩ = some x2 ∧ wr.cell? ⟨w.heap.size, 3, none⟩ = some x3 ∧ wr.cell? ⟨w.heap.size, 4, none⟩ = some x4 ∧ wr.cell? ⟨w.heap.size, 5, none⟩ = some x5) ∧
  wr.cell? ⟨w.heap.size + 1, 0, none⟩ = some y0 ∧ wr.cell? ⟨w.heap.size + 1, 1, none⟩ = some y1 ∧ wr.cell? ⟨w.heap.size + 1, 2, none⟩ = some y2 ∧ wr.cell? ⟨w.heap.size + 1, 3, none⟩ = some y3 ∧ wr.cell? ⟨w.heap.size + 1, 4, none⟩ = some y4 ∧ wr.cell? ⟨w.heap.size + 1, 5, none⟩ = some y5 := by
 have k := fun j => h.cell (p := ⟨w.heap.size, j, none⟩) (by show w.heap.size < _; omega)
 have k' := fun j => h.cell (p := ⟨w.heap.size + 1, j, none⟩) (by show w.heap.size + 1 < _; omega)
 refine ⟨⟨(k 0).trans ?_, (k 1).trans ?_, (k 2).trans ?_, (k 3).trans ?_, (k 4).trans ?_, (k 5).trans ?_⟩, (k' 0).trans ?_, (k' 1).trans ?_, (k' 2).trans ?_, (k' 3).trans ?_, (k' 4).trans ?_, (k' 5).trans ?_⟩ <;> go_simp

set_option maxRecDepth 100000 in
theorem refMeets04_any (x y : SubV) (w : World) (hx : x.At w) (hy : y.At w) :
  Calls Tryz.prog 39 #[.agg #[.int .i64 x.s0, .int .i64 x.s1, .int .i64 x.s2, .slice x.ra x.rs.length x.rc, .slice x.sa x.ss.length x.sc, .slice x.wa x.ws.length x.wc], .agg #[.int .i64 y.s0, .int .i64 y.s1, .int .i64 y.s2, .slice y.ra y.rs.length y.rc, .slice y.sa y.ss.length y.sc, .slice y.wa y.ws.length y.wc]] w (Ret (.bool (x.meets y)) w) := by
 have H := fun W (hb : Below w.heap.size w W) key hk => refReads_any x key W (hx.below hb) hk
 obtain ⟨hr, hl, hm⟩ := hy.w
 unfold maxLen at hm
 unfold SubV.meets
 clear hx hy
 obtain ⟨t0, t1, t2, ya, yc, yrs, za, zc, zs, wa, wc, xs⟩ := y
 simp only at *
 generalize hR : x.reads = R at *
 have HR' := hid hR
 clear hR
 generalize x.rs.length = n1 at *
 generalize x.ss.length = n2 at *
 generalize x.ws.length = n3 at *
 generalize x.s0 = s0 at *
 generalize x.s1 = s1 at *
 generalize x.s2 = s2 at *
 generalize x.ra = ra at *
 generalize x.rc = rc at *
 generalize x.sa = sa at *
 generalize x.sc = sc at *
 generalize x.wa = xwa at *
 generalize x.wc = xwc at *
 generalize yrs.length = n4 at *
 generalize zs.length = n5 at *
 rcases hr with rfl | ⟨b, o, rfl, hb, hc⟩
 ·simp only [List.any_nil, List.length_nil]
  go_enter Tryz.func39, Tryz.ntmps39
  go_wp2
  go_loop [5] (fun i => i = .int .i64 0) (fun _ => 0)
  case atStart => rfl
  case round =>
   subst hrel
   go_wp2
   go_ret
   exact ⟨rfl, by exact below_auto⟩
 ·have HC := hid hc; have HL := hid hl
  generalize hn : xs.length = n at *
  have HN := hid hn
  clear hn hc hl
  go_enter Tryz.func39, Tryz.ntmps39
  go_wp2
  go_loopw [5] (fun i wr => ∃ k : Nat, k ≤ n ∧ i = .int .i64 k ∧ Hid (∀ j : Nat, j < k → ∀ y, xs[j]? = some y → R y = false) ∧
   Below (w.heap.size + 2) ((w.alloc (.cells #[.int .i64 s0, .int .i64 s1, .int .i64 s2, .slice ra n1 rc, .slice sa n2 sc, .slice xwa n3 xwc] 35 (0, 0))).alloc (.cells #[.int .i64 t0, .int .i64 t1, .int .i64 t2, .slice ya n4 yc, .slice za n5 zc, .slice (some ⟨b, o, none⟩) n wc] 35 (0, 0))) wr) (fun i _ => n - (intOf i).toNat)
  case atStart => exact ⟨0, Nat.zero_le _, rfl, hid fun j hj => absurd hj (Nat.not_lt_zero _), Below.refl _ _⟩
  case round =>
   obtain ⟨k, hk, rfl, HR, hbw⟩ := hrel
   have hbw0 : Below w.heap.size w wr := ((((Below.refl _ _).alloc (Nat.le_refl _) _).alloc (by simp) _).trans (hbw.mono (by omega)))
   obtain ⟨⟨d0, d1, d2, d3, d4, d5⟩, e0, e1, e2, e3, e4, e5⟩ := cells66 hbw
   clear e0 e1 e2 e3 e4
   have hsz := hbw0.size
   have hsz' : w.heap.size < wr.heap.size := by have := hbw.size; simp at this; omega
   have hsz2 : w.heap.size + 1 < wr.heap.size := by have := hbw.size; simp at this; omega
   by_cases hlt : k < n
   ·have c0 := HC.out k hlt
    have l0 := HL.out k hlt
    have hlt' : (k : Int) < (n : Int) := by omega
    have hkx := hid (fl_some (xs := xs) (k := k) (by rw [HN.out]; exact hlt))
    have c1 := (hbw0.cell (p := ⟨b, _, none⟩) hb).trans c0
    have hbb : b < wr.heap.size := by omega
    clear c0
    generalize hs : xs[k]?.getD 0 = s at *
    have HS := hid hs
    clear hs
    have H1 := fun W (hw : Below wr.heap.size wr W) => H W (hbw0.trans (hw.mono hsz)) s l0
    clear H
    cases hp : R s
    ·rw [hp] at H1
     have HP := hid hp
     clear hp
     go_wp2_with fail
     (refine wp_region_ext (by kernel_rfl) (by kernel_rfl) ?_; (repeat (go_big_quiet_step (first | (go_at_call 58; with_reducible exact Calls.ext_of (H1 _ (Ext.b _)))))); refine wpQuiet_nil ?_; rintro w1 ⟨x1, hx1⟩; have hb1 := x1.b; rw [← hx1] at hb1; clear hx1 x1; obtain ⟨hc1, hf1⟩ := bcell hb1; (try simp only [World.heap_drewN, World.cell?_drewN, World.frozen?_drewN] at hc1 hf1); have hz1 := hb1.size; (try simp at hz1); (try have hy1_0 : w.heap.size < w1.heap.size := by omega); (try have hy1_1 : w.heap.size + 1 < w1.heap.size := by omega); (try have hy1_2 : w.heap.size + 2 < w1.heap.size := by omega); (try have hy1_3 : w.heap.size + 3 < w1.heap.size := by omega); (try have hx1_0 : w.heap.size ≤ w1.heap.size := by omega); (try have hx1_1 : w.heap.size + 1 ≤ w1.heap.size := by omega); (try have hx1_2 : w.heap.size + 2 ≤ w1.heap.size := by omega))
     go_wp2_with fail
     go_roundw
     case rel => exact ⟨k + 1, by omega, by go_num, hid fun j hj y hy => by
       by_cases h : j < k
       ·exact HR.out j h y hy
       ·obtain rfl : j = k := by omega
        rw [hkx.out] at hy; cases hy; exact HP.out, by clear hbw0; exact below_auto⟩
     case measure => simp [intOf]; omega
    ·rw [hp] at H1
     have HP := hid hp
     clear hp
     go_wp2_with fail
     (refine wp_region_ext (by kernel_rfl) (by kernel_rfl) ?_; (repeat (go_big_quiet_step (first | (go_at_call 58; with_reducible exact Calls.ext_of (H1 _ (Ext.b _)))))); refine wpQuiet_nil ?_; rintro w1 ⟨x1, hx1⟩; have hb1 := x1.b; rw [← hx1] at hb1; clear hx1 x1; obtain ⟨hc1, hf1⟩ := bcell hb1; (try simp only [World.heap_drewN, World.cell?_drewN, World.frozen?_drewN] at hc1 hf1); have hz1 := hb1.size; (try simp at hz1); (try have hy1_0 : w.heap.size < w1.heap.size := by omega); (try have hy1_1 : w.heap.size + 1 < w1.heap.size := by omega); (try have hy1_2 : w.heap.size + 2 < w1.heap.size := by omega); (try have hy1_3 : w.heap.size + 3 < w1.heap.size := by omega); (try have hx1_0 : w.heap.size ≤ w1.heap.size := by omega); (try have hx1_1 : w.heap.size + 1 ≤ w1.heap.size := by omega); (try have hx1_2 : w.heap.size + 2 ≤ w1.heap.size := by omega))
     go_wp2_with fail
     go_ret
     refine ⟨ret_bool ?_, by exact below_auto⟩
     symm
     exact List.any_eq_true.2 ⟨_, List.mem_iff_getElem?.2 ⟨k, hkx.out⟩, HP.out⟩
   ·obtain rfl : k = n := by omega
    go_wp2
    go_ret
    refine ⟨ret_bool ?_, by exact below_auto⟩
    rw [← idxB_any, idxB_none]
    ·rfl
    ·intro i x hx
     refine HR.out i ?_ x hx
     have := (List.getElem?_eq_some_iff.1 hx).1
     have := HN.out
     omega
end Go.Proofs.YtekmadgacepdfaaGreat
