/- Several texts as one: TM TN TV TO TP. -/
import Derived.Test.YtekmadgacepdfaaGreatMTJ
import Derived.Test.YtekmadgacepdfaaGreatMUD
namespace Go.Proofs.YtekmadgacepdfaaGreat.T
set_option linter.unusedVariables false
open Go.RowKit Fl Go.Shelf
set_option linter.unusedSimpArgs false

def SortRet (r : List Int × List Int) (w : World) (e : Ending) (w' : World) : Prop := ∃ ao co al cl, e = .returned (.tuple #[.slice ao r.1.length co, .slice al r.2.length cl]) ∧
 w'.ownsRow w.heap.size 2 1 (.slice ao r.1.length co) r.1.length (nCells r.1) ∧ w'.ownsRow w.heap.size 2 1 (.slice al r.2.length cl) r.2.length (nCells r.2) ∧ Below w.heap.size w w'
theorem eCells_at {l : List (Int × Int)} {j t : Nat} {v : Value} (hj : j < l.length) (hv : (eEnc l[j])[t]? = some v) : (eCells l)[j * 2 + t]? = some v := by
 have h1 := flat_drop (f := eEnc) (K := 2) (fun _ => rfl) l j
 rw [List.drop_eq_getElem_cons hj, List.flatMap_cons] at h1
 have h2 : ((eCells l).drop (j * 2))[t]? = some v := by
  unfold eCells
  rw [h1, List.getElem?_append_left (List.getElem?_eq_some_iff.1 hv).1]; exact hv
 rw [List.getElem?_drop] at h2
 exact h2
set_option maxHeartbeats 4000000 in
set_option maxRecDepth 100000 in
theorem sort_any (a : Option Addr) (c n : Nat) (h : List DoneV) (w : World) (hn : h.length = n) (hcap : n ≤ c) (hh : HAt w a h) :
  Calls Tryz.prog 59 #[.slice a n c] w (SortRet (sortV h) w) := by
 have HX := hid hh
 have HN := hid hn
 have HRT := hid (right_any a c n h _ w hn hcap hh rfl)
 by_cases hr : rightV h = true
 rotate_left
 ·have hrf : rightV h = false := by simpa using hr
  have hsv : sortV h = ([], []) := by unfold sortV; rw [hrf]; rfl
  rw [hsv]
  have HRT := HRT.out
  rw [hrf] at HRT
  clear hr hsv hrf hh hn HX HN
  go_enter Tryz.func59, Tryz.ntmps59
  go_wp2_with (go_at_call 29; (with_reducible refine (HRT).mono ?_); rintro e w1 ⟨rfl, hb1⟩; obtain ⟨hc1, hf1⟩ := bcell hb1; (try simp only [World.heap_drewN, World.cell?_drewN, World.frozen?_drewN] at hc1 hf1); have hz1 := hb1.size; (try simp at hz1); (try have hy1_0 : w.heap.size < w1.heap.size := by omega); (try have hy1_1 : w.heap.size + 1 < w1.heap.size := by omega); (try have hx1_0 : w.heap.size ≤ w1.heap.size := by omega); (try have hx1_1 : w.heap.size + 1 ≤ w1.heap.size := by omega))
  refine bodyPost_ret (v := .tuple #[.slice none 0 0, .slice none 0 0]) (by simp [results, Tryz.results59, go_sem]) rfl ?_
  exact ⟨none, 0, none, 0, rfl, World.ownsRow_nil _ _ _ _, World.ownsRow_nil _ _ _ _, by (repeat (first | with_reducible exact Below.refl _ _ | ((with_reducible refine Below.alloc1 ?_ ?_ _); (· first | omega | (simp; done) | (simp; omega))) | (with_reducible refine Below.drew ?_) | (with_reducible refine below_drewN' ?_ _) | ((with_reducible refine Below.setCell1 ?_ ?_ _); (· first | omega | (simp; done) | (simp; omega))) | ((with_reducible refine Below.after (by assumption) ?_ ?_); (· first | omega | (simp; done) | (simp; omega)))))⟩
 have hm := right_len hr
 rw [hn] at hm
 have HR := hid hr
 have HRT := HRT.out
 rw [hr] at HRT
 have HED := hid fun W (hb : Below w.heap.size w W) => edges_any a c n h W hn hcap (hh.below hb)
 clear hh hn hr
 go_enter Tryz.func59, Tryz.ntmps59
 go_upto_region 3 with (go_at_call 29; (with_reducible refine (HRT).mono ?_); rintro e w1 ⟨rfl, hb1⟩; obtain ⟨hc1, hf1⟩ := bcell hb1; (try simp only [World.heap_drewN, World.cell?_drewN, World.frozen?_drewN] at hc1 hf1); have hz1 := hb1.size; (try simp at hz1); (try have hy1_0 : w.heap.size < w1.heap.size := by omega); (try have hy1_1 : w.heap.size + 1 < w1.heap.size := by omega); (try have hx1_0 : w.heap.size ≤ w1.heap.size := by omega); (try have hx1_1 : w.heap.size + 1 ≤ w1.heap.size := by omega))
 clear HRT
 obtain ⟨W1, hmk1, hrow1, hg1⟩ := make_ints n hm w1
 have hb1' := below_of_grown hg1
 obtain ⟨W3, hmk3, hrow3, hg3⟩ := make_rows n hm (W1.alloc (.cells #[.slice (some ⟨w1.heap.size, 0, none⟩) (n + 1) (n + 1)] 22))
 have hb3' := below_of_grown hg3
 have hbx : Below W1.heap.size W1 (W1.alloc (.cells #[.slice (some ⟨w1.heap.size, 0, none⟩) (n + 1) (n + 1)] 22)) := Below.alloc1 (Nat.le_refl _) (Below.refl _ _) _
 have hAH : AheadAt W3 W1.heap.size w1.heap.size n (cntTo (edgesV h) 0) := ⟨(hb3'.block W1.heap.size (by simp)).trans (heap_alloc_new _ _), by
  refine (hb3'.block w1.heap.size (by have := hb1'.size; have := (Array.getElem?_eq_some_iff.1 hrow1).1; simp; omega)).trans ((hbx.block w1.heap.size (Array.getElem?_eq_some_iff.1 hrow1).1).trans hrow1)⟩
 have hBH : BehAt W3 w.heap.size (W1.alloc (.cells #[.slice (some ⟨w1.heap.size, 0, none⟩) (n + 1) (n + 1)] 22)).heap.size n (fun _ => (none, 0)) (fromT (edgesV h) 0) := ⟨hrow3, fun k _ => World.ownsRow_nil _ _ _ _, fun j k _ _ _ g e => by cases e⟩
 have hbw3 : Below w.heap.size w W3 := (((hb1.trans (hb1'.mono hb1.size)).trans (hbx.mono (Nat.le_trans hb1.size hb1'.size))).trans (hb3'.mono (by have := hb1.size; have := hb1'.size; simp; omega)))
 have hCH : w.heap.size ≤ (W1.alloc (.cells #[.slice (some ⟨w1.heap.size, 0, none⟩) (n + 1) (n + 1)] 22)).heap.size := by have := hb1.size; have := hb1'.size; simp; omega
 have hCA : w.heap.size ≤ w1.heap.size := hb1.size
 have HAH := hid hAH; have HBH := hid hBH; have HB3 := hid hbw3
 clear hAH hBH hrow1 hg1 hb1' hrow3 hg3 hb3' hbx hb1 hc1 hf1 hz1
 go_upto_region 5 with fail
 clear hmk1 hmk3
 rw [show (W1.alloc (.cells #[.slice (some ⟨w1.heap.size, 0, none⟩) (n + 1) (n + 1)] 22)).heap.size = W1.heap.size + 1 by simp] at HBH hCH
 generalize W1.heap.size + 1 = H at *
 generalize w1.heap.size = A at *
 generalize W1.heap.size = X at *
 have hz3 := HB3.out.size
 have HED3 := hid (HED.out W3 HB3.out)
 go_wp2_with fail
 refine HED3.out.mono ?_
 rintro e W4 ⟨ae, ce, rfl, hE, hb4⟩
 have HAH4 := hid (HAH.out.below hb4)
 have HBH4 := hid (HBH.out.below hb4)
 have hbw4 := HB3.out.trans (hb4.mono hz3)
 have hEL : (edgesV h).length ≤ 4096 := by
  have h1 := outE_len h h.length
  have h2 : edgesV h = outE h h.length := by unfold edgesV outE; rw [if_pos HR.out, List.take_length]
  rw [h2]
  refine Nat.le_trans h1 ?_
  rw [HN.out]
  exact Nat.mul_le_mul (by omega : n ≤ 64) (by omega : n ≤ 64)
 have HEM := hid fun e he => edges_mem HR.out (e := e) he
 have HHE := hid hE
 clear hb4 HED HED3 hE HAH HBH HB3
 obtain ⟨l, hl⟩ : ∃ l, l = edgesV h := ⟨_, rfl⟩
 rw [← hl] at HAH4 HBH4 hEL HEM HHE ⊢
 obtain ⟨E, hEe⟩ : ∃ E, E = l.length := ⟨_, rfl⟩
 rw [← hEe] at hEL HHE ⊢
 have HE := hid hEe
 have HLE := hid hl
 clear hl hEe
 go_upto_region 6 with fail
 go_loopw [28] (fun t28 wx => ∃ (i : Nat) (f : Nat → Option Addr × Nat), t28 = .int .i64 (i : Nat) ∧ i ≤ E ∧ Hid (AheadAt wx X A n (cntTo l i)) ∧ Hid (BehAt wx w.heap.size H n f (fromT l i)) ∧ Hid (wx.ownsRow W3.heap.size 76 2 (.slice ae E ce) E (eCells l)) ∧ Below w.heap.size w wx) (fun t28 _ => E - (intOf t28).toNat)
 case atStart => exact ⟨0, _, rfl, Nat.zero_le _, HAH4, HBH4, HHE, hbw4⟩
 case round =>
  obtain ⟨i, f, rfl, hi, HA, HB, HEr, hbw⟩ := hrel
  by_cases hlt : i < E
  ·have hlt' : (i : Int) < (E : Int) := by omega
   have hkl : i < l.length := by rw [← HE.out]; exact hlt
   have hrow := HEr.out
   rcases hrow.2 with ⟨_, h2⟩ | ⟨g, cap, cur, h1, -⟩
   ·omega
   injection h1 with ha _ hcap2
   subst ha; subst hcap2
   have q0 := hrow.cells (g := g) rfl (i * 2 + 0) _ (eCells_at hkl (t := 0) rfl)
   have q1 := hrow.cells (g := g) rfl (i * 2 + 1) _ (eCells_at hkl (t := 1) rfl)
   rw [K.addr0] at q0 q1
   rw [Nat.add_zero] at q0
   have hgl := (hrow.lt g rfl).2
   obtain ⟨⟨m1, m2⟩, k1, k2⟩ := HEM.out l[i] (List.getElem_mem hkl)
   have hsome : l[i]? = some l[i] := List.getElem?_eq_getElem hkl
   generalize l[i] = ed at *
   obtain ⟨em, ek⟩ := ed
   simp only at m1 m2 k1 k2 q0 q1
   rw [HN.out] at m2 k2
   obtain ⟨m, rfl⟩ : ∃ m : Nat, em = (m : Int) := ⟨em.toNat, by omega⟩
   obtain ⟨k, rfl⟩ : ∃ k : Nat, ek = (k : Int) := ⟨ek.toNat, by omega⟩
   have hmN : m ≤ n := by omega
   have hkN : k ≤ n := by omega
   have hbz : Below wr.heap.size wr (wr.alloc (.cells #[.int .i64 (m : Int), .int .i64 (k : Int)] 76)) := Below.alloc1 (Nat.le_refl _) (Below.refl _ _) _
   have hA5 := HA.out.below hbz
   have hB5 := HB.out.below hbz
   have hE5 := own_keep hrow fun q cur _ hq => hbz.block q (Array.getElem?_eq_some_iff.1 hq).1
   have hX5 : (wr.alloc (.cells #[.int .i64 (m : Int), .int .i64 (k : Int)] 76)).heap[wr.heap.size]? = some (.cells #[.int .i64 (m : Int), .int .i64 (k : Int)] 76 (0, 0)) := heap_alloc_new _ _
   have hbw5 := hbw.trans (hbz.mono hbw.size)
   have hsz := hbw.size
   go_upto_region 8 with fail
   clear q0 q1 hbz hrow hgl hbw
   generalize wr.alloc (.cells #[.int .i64 (m : Int), .int .i64 (k : Int)] 76) = W5 at *
   generalize wr.heap.size = P7 at *
   have hp7 := (Array.getElem?_eq_some_iff.1 hX5).1
   have p0 : W5.cell? ⟨P7, 0, none⟩ = some (.int .i64 (m : Int)) := by rw [cell_of_row W5 P7 0 _ _ (0, 0) hX5]; rfl
   have p1 : W5.cell? ⟨P7, 1, none⟩ = some (.int .i64 (k : Int)) := by rw [cell_of_row W5 P7 1 _ _ (0, 0) hX5]; rfl
   have a0 := hA5.c0
   obtain ⟨ak, af⟩ := hA5.cell hkN
   obtain ⟨hax, haa⟩ := hA5.lt
   obtain ⟨hA6, hg6⟩ := hA5.set hkN (cntTo l i k + 1)
   rw [← cntTo_snoc hsome] at hA6
   have hB6 := hB5.other hg6 hA5.row (by decide) (by decide)
   have hP6 := (hg6.block P7 hp7 (fun e => by
    have e1 := Option.some.inj e
    rw [e1, hA5.row] at hX5
    simp only [Option.some.injEq, Obj.cells.injEq] at hX5
    exact absurd hX5.2.1 (by decide))).trans hX5
   have hE6 := own_keep hE5 fun q cur _ hq => hg6.block q (Array.getElem?_eq_some_iff.1 hq).1 fun e => by
    have e1 := Option.some.inj e
    rw [e1, hA5.row] at hq
    simp only [Option.some.injEq, Obj.cells.injEq] at hq
    exact absurd hq.2.1 (by decide)
   have hbw6 := hbw5.grown hg6 hbw5.size (fun q hq => by cases hq; exact hCA)
   obtain ⟨cl0, cl1⟩ := cntTo_le l i k
   have HA6 := hid hA6; have HB6 := hid hB6; have HP6 := hid hP6; have HE6 := hid hE6; have HB6' := hid hbw6
   clear hA5 hB5 hE5 hbw5 hA6 hg6 hB6 hP6 hE6 hbw6 hX5
   have hkN' : (k : Int) < (n : Int) + 1 := by omega
   have hcn : cntTo l i k + 1 ≤ 4097 := by omega
   generalize cntTo l i k = cv at *
   go_upto_region 9 with fail
   clear p0 p1 a0 ak af
   generalize W5.setCell ⟨A, k, none⟩ (.int .i64 (cv + 1)) = W6 at *
   obtain ⟨Y0, hY0⟩ : ∃ Y : World, Y = { W6 with drawn := W6.drawn + 1 } := ⟨_, rfl⟩
   have hb0 : Below W6.heap.size W6 Y0 := by rw [hY0]; exact Below.drew (Below.refl _ W6)
   have hA0 := HA6.out.below hb0
   have hB0 := HB6.out.below hb0
   have hP0 : Y0.heap[P7]? = _ := (hb0.block P7 (Array.getElem?_eq_some_iff.1 HP6.out).1).trans HP6.out
   have hE0 := own_keep HE6.out fun q cur _ hq => hb0.block q (Array.getElem?_eq_some_iff.1 hq).1
   have hw0 := HB6'.out.trans (hb0.mono HB6'.out.size)
   have r0 : Y0.cell? ⟨P7, 0, none⟩ = some (.int .i64 (m : Int)) := by rw [cell_of_row Y0 P7 0 _ _ (0, 0) hP0]; rfl
   have r1 : Y0.cell? ⟨P7, 1, none⟩ = some (.int .i64 (k : Int)) := by rw [cell_of_row Y0 P7 1 _ _ (0, 0) hP0]; rfl
   obtain ⟨rb, rf⟩ := hB0.cell hmN
   have hlen := fromT_len l i m
   obtain ⟨a2, c2, Y2, hrun, hs2, hf2, hB2, hw2, hst2, hst⟩ := hB0.add hmN (k : Int) hw0.size (by omega) hCH
   rw [← fromT_snoc hsome] at hB2
   have hA2 := hA0.stay hst
   have hE2 := own_keep hE0 fun q cur _ hq => (hst q _ hq (fun cur e => by simp only [Obj.cells.injEq] at e; exact absurd e.2.1 (by decide)) (fun cur e => by simp only [Obj.cells.injEq] at e; exact absurd e.2.1 (by decide))).trans hq.symm
   have hP2 : Y2.heap[P7]? = _ := hst2 P7 _ hP0 (fun cur e => by simp only [Obj.cells.injEq] at e; exact absurd e.2.1 (by decide))
   have hb1 : Below Y0.heap.size Y0 (Y0.alloc (.cells #[.int .i64 (k : Int)] 2)) := Below.alloc1 (Nat.le_refl _) (Below.refl _ _) _
   have t0 := (hb1.cell (p := ⟨P7, 0, none⟩) (Array.getElem?_eq_some_iff.1 hP0).1).trans r0
   have t2 : Y2.cell? ⟨P7, 0, none⟩ = some (.int .i64 (m : Int)) := by rw [cell_of_row Y2 P7 0 _ _ (0, 0) hP2]; rfl
   have tb := (hb1.cell (p := ⟨H, m, none⟩) hB0.lt).trans rb
   have T0 := hid t0; have T2 := hid t2; have TB := hid tb
   have HA2 := hid hA2; have HB2 := hid hB2; have HE2 := hid hE2; have HW2 := hid (hw0.trans hw2)
   have R0 := hid r0; have R1 := hid r1; have RB := hid rb; have HRUN := hid hrun; have HS2 := hid hs2; have HF2 := hid hf2; have HY0 := hid hY0
   have hmN' : (m : Int) < (n : Int) + 1 := by omega
   obtain ⟨Y3, hY3⟩ : ∃ Y : World, Y = Y2.setCell ⟨H, m, none⟩ (.slice a2 ((fromT l i m).length + 1) c2) := ⟨_, rfl⟩
   rw [← hY3] at HA2 HB2 HE2 HW2
   have HY3 := hid hY3
   clear hY0 hb0 hA0 hB0 hP0 hE0 hw0 r0 r1 rb rf hrun hs2 hf2 hB2 hw2 hst hst2 hP2 hb1 t0 t2 tb hA2 hE2 hY3 HA6 HB6 HP6 HE6 HB6' hlen
   obtain ⟨fl, hfl⟩ : ∃ fl, fl = (fromT l i m).length := ⟨_, rfl⟩
   rw [← hfl] at RB TB HRUN HY3
   generalize (f m).1 = fa at *
   generalize (f m).2 = fc at *
   clear hfl
   refine wp_region_chain (fun q => [Value.slice (some ⟨H, 0, none⟩) (n + 1) (n + 1), .pointer (some ⟨P7, 0, none⟩), .int .i64 (m : Int), .slice (some ⟨H, 0, none⟩) (n + 1) (n + 1), .pointer (some ⟨P7, 0, none⟩), .int .i64 (m : Int), .pointer (some ⟨H, m, none⟩), .slice fa fl fc, .pointer (some ⟨P7, 1, none⟩), .int .i64 (k : Int), .slice (some ⟨Y0.heap.size, 0, none⟩) 1 1, .slice a2 (fl + 1) c2, .pointer (some ⟨H, m, none⟩)].getD q undef) (fun q V => V = [Y0, Y0.alloc (.cells #[.int .i64 (k : Int)] 2), Y2, Y3].getD q Y0) (fun _ _ => False) [10, 11, 13] rfl (by kernel_rfl) (by kernel_rfl) (by decide) (by decide) HY0.out.symm ?_ ?_ ?_
   ·simp only [StepsC, List.nil_append, List.cons_append]
    refine ⟨?p0, ?p1, ?l2, ?p3, ?p4, ?l5, ?p6, ?l7, ?p8, ?l9, ?bs, ?ap, ?p12, ?st, trivial⟩
    case l2 =>
     intro jj X9 g1 g2 hx
     have hj : jj = 0 ∨ jj = 1 ∨ jj = 2 := by have : jj ≤ 2 := Nat.le_trans g2 (by decide +kernel); omega
     have c4 : X9.cell? ⟨P7, 0, none⟩ = some (.int .i64 (m : Int)) := by
      rw [hx]
      rcases hj with rfl | rfl | rfl
      ·exact R0.out
      ·exact T0.out
      ·exact T2.out
     generalize hR : (fun v w' => (_ → v = _) ∧ _) = RR
     have HR' := hid hR
     have HXX := hid hx
     clear hR g1 g2 hx
     try simp only [putsFrom, Act.put, List.setIfInBounds_toArray, List.set_cons_zero, List.set_cons_succ, Nat.zero_add, Nat.reduceAdd, List.getD_cons_zero, List.getD_cons_succ]
     go_wp2_with fail
     have hR := HR'.out
     subst hR
     exact ⟨rfl, fun _ => rfl, HXX.out⟩
    case l5 =>
     intro jj X9 g1 g2 hx
     have hj : jj = 0 ∨ jj = 1 := by have : jj ≤ 1 := Nat.le_trans g2 (by decide +kernel); omega
     have c4 : X9.cell? ⟨P7, 0, none⟩ = some (.int .i64 (m : Int)) := by
      rw [hx]
      rcases hj with rfl | rfl
      ·exact R0.out
      ·exact T0.out
     generalize hR : (fun v w' => (_ → v = _) ∧ _) = RR
     have HR' := hid hR
     have HXX := hid hx
     clear hR g1 g2 hx
     try simp only [putsFrom, Act.put, List.setIfInBounds_toArray, List.set_cons_zero, List.set_cons_succ, Nat.zero_add, Nat.reduceAdd, List.getD_cons_zero, List.getD_cons_succ]
     go_wp2_with fail
     have hR := HR'.out
     subst hR
     exact ⟨rfl, fun _ => rfl, HXX.out⟩
    case l7 =>
     intro jj X9 g1 g2 hx
     have hj : jj = 0 ∨ jj = 1 := by have : jj ≤ 1 := Nat.le_trans g2 (by decide +kernel); omega
     have c4 : X9.cell? ⟨H, m, none⟩ = some (.slice fa fl fc) := by
      rw [hx]
      rcases hj with rfl | rfl
      ·exact RB.out
      ·exact TB.out
     generalize hR : (fun v w' => (_ → v = _) ∧ _) = RR
     have HR' := hid hR
     have HXX := hid hx
     clear hR g1 g2 hx
     try simp only [putsFrom, Act.put, List.setIfInBounds_toArray, List.set_cons_zero, List.set_cons_succ, Nat.zero_add, Nat.reduceAdd, List.getD_cons_zero, List.getD_cons_succ]
     go_wp2_with fail
     have hR := HR'.out
     subst hR
     exact ⟨rfl, fun _ => rfl, HXX.out⟩
    case l9 =>
     intro jj X9 g1 g2 hx
     obtain rfl : jj = 0 := Nat.le_zero.1 (Nat.le_trans g2 (by decide +kernel))
     have c4 := R1.out
     rw [← (show X9 = Y0 from hx)] at c4
     generalize hR : (fun v w' => (_ → v = _) ∧ _) = RR
     have HR' := hid hR
     have HXX := hid hx
     clear hR g1 g2 hx
     try simp only [putsFrom, Act.put, List.setIfInBounds_toArray, List.set_cons_zero, List.set_cons_succ, Nat.zero_add, Nat.reduceAdd, List.getD_cons_zero, List.getD_cons_succ]
     go_wp2_with fail
     have hR := HR'.out
     subst hR
     exact ⟨rfl, fun _ => rfl, HXX.out⟩
    case bs =>
     intro jj X9 g1 g2 hx
     obtain rfl : jj = 0 := Nat.le_zero.1 (Nat.le_trans g2 (by decide +kernel))
     obtain rfl : X9 = Y0 := hx
     generalize hR : (fun v w' => (_ → v = _) ∧ _) = RR
     have HR' := hid hR
     clear hR g1 g2
     simp only [putsFrom, Act.put, List.setIfInBounds_toArray, List.set_cons_zero, List.set_cons_succ, Nat.zero_add, Nat.reduceAdd, List.getD_cons_zero, List.getD_cons_succ]
     go_wp2_with fail
     have hR := HR'.out
     subst hR
     exact ⟨rfl, fun _ => rfl, rfl⟩
    case ap =>
     intro jj X9 g1 g2 hx
     obtain rfl : jj = 1 := Nat.le_antisymm (Nat.le_trans g2 (by decide +kernel)) (Nat.le_trans (by decide +kernel) g1)
     obtain rfl : X9 = Y0.alloc (.cells #[.int .i64 (k : Int)] 2) := hx
     generalize hR : (fun v w' => (_ → v = _) ∧ _) = RR
     have HR' := hid hR
     clear hR g1 g2
     simp only [putsFrom, Act.put, List.setIfInBounds_toArray, List.set_cons_zero, List.set_cons_succ, Nat.zero_add, Nat.reduceAdd, List.getD_cons_zero, List.getD_cons_succ]
     go_wp2_with (at_builtin; refine Lib.wpList_append_run _ rfl _ _ _ _ rfl _ _ rfl rfl _ _ (HRUN.out _) ?_)
     have hR := HR'.out
     subst hR
     exact ⟨rfl, fun _ => rfl, rfl⟩
    case st =>
     intro jj X9 g1 g2 hx
     obtain rfl : jj = 2 := Nat.le_antisymm (Nat.le_trans g2 (by decide +kernel)) (Nat.le_trans (by decide +kernel) g1)
     obtain rfl : X9 = Y2 := hx
     have k3 := HS2.out; have f3 := HF2.out
     obtain ⟨v3, k3⟩ := Option.isSome_iff_exists.1 k3
     generalize hR : (fun v w' => (_ → v = _) ∧ _) = RR
     have HR' := hid hR
     clear hR g1 g2
     simp only [putsFrom, Act.put, List.setIfInBounds_toArray, List.set_cons_zero, List.set_cons_succ, Nat.zero_add, Nat.reduceAdd, List.getD_cons_zero, List.getD_cons_succ]
     go_wp2_with fail
     have hR := HR'.out
     subst hR
     exact ⟨rfl, fun h => absurd rfl h, HY3.out.symm⟩
    all_goals
     intro jj X9 g1 g2 hx
     generalize hR : (fun v w' => (_ → v = _) ∧ _) = RR
     have HR' := hid hR
     have HXX := hid hx
     clear hR g1 g2 hx
     try simp only [putsFrom, Act.put, List.setIfInBounds_toArray, List.set_cons_zero, List.set_cons_succ, Nat.zero_add, Nat.reduceAdd, List.getD_cons_zero, List.getD_cons_succ]
     go_wp2_with fail
     have hR := HR'.out
     subst hR
     exact ⟨rfl, fun _ => rfl, HXX.out⟩
   ·intro X9 hx
    obtain rfl : X9 = Y3 := hx
    simp only [putsFrom, Act.put, List.setIfInBounds_toArray, List.set_cons_zero, List.set_cons_succ, Nat.zero_add, Nat.reduceAdd, List.getD_cons_zero, List.getD_cons_succ]
    go_wp2_with fail
    go_roundw
    case rel => exact ⟨i + 1, _, by go_num, by omega, HA2, HB2, HE2, HW2.out⟩
    case measure => simp [intOf]; omega
   ·exact fun _ _ _ _ hx => hx.elim
  ·obtain rfl : i = E := by omega
   have hge : ¬ (i : Int) < (i : Int) := by omega
   obtain ⟨W8, rfl⟩ : ∃ x, x = wr := ⟨_, rfl⟩
   have hz8 := hbw.size
   have hA8 := HA.out.lt.2
   have hli : l.take i = l := by rw [HE.out]; exact List.take_length
   have hav : ∀ k ∈ upN n, cntTo l i k.toNat = (((upN n).filter fun m => lead h m k).length : Nat) := fun k hk => by
    obtain ⟨k1, k2⟩ := upN_mem.1 hk
    unfold cntTo
    rw [hli, HLE.out]
    have h1 := edges_to HR.out k (by rw [HN.out]; exact hk)
    rw [HN.out] at h1
    rw [← h1, show ((k.toNat : Nat) : Int) = k by omega]
   have hbs : ∀ m ∈ upN n, fromT l i m.toNat = fromN h m := fun m hm => by
    obtain ⟨k1, k2⟩ := upN_mem.1 hm
    unfold fromT
    rw [hli, HLE.out, show ((m.toNat : Nat) : Int) = m by omega]
    exact edges_from HR.out (by rw [HN.out]; exact hm)
   have HAV := hid hav; have HBS := hid hbs
   have HBR := hid fun W (hg : W8.grownBy W (some A)) => HB.out.other hg HA.out.row (by decide) (by decide)
   have HNM := hid fun j d hd => (right_num HR.out (i := j) (d := d) hd).1
   clear hav hbs hli HB HEr HEM HHE HAH4 HBH4
   go_upto_region 12 with fail
   go_loopw [3, 55] (fun t3 t55 wx => ∃ (j : Nat) (al : Option Addr) (cl : Nat), t55 = .int .i64 (j : Nat) ∧ t3 = .slice al j cl ∧ j ≤ n ∧ Hid (wx.ownsRow W8.heap.size 2 1 (.slice al j cl) j (nCells (upN j))) ∧ Below W8.heap.size W8 wx) (fun _ t55 _ => n - (intOf t55).toNat)
   case atStart => exact ⟨0, none, 0, rfl, rfl, Nat.zero_le _, hid (World.ownsRow_nil _ _ _ _), Below.refl _ _⟩
   case round =>
    obtain ⟨j, al, cl, rfl, rfl, hj, HL, hb9⟩ := hrel
    by_cases hjn : j < n
    ·have hjn' : (j : Int) < (n : Int) := by omega
     have hjl : j < h.length := by rw [HN.out]; exact hjn
     have hsome : h[j]? = some (h[j]?.getD default) := by rw [List.getElem?_eq_getElem hjl]; rfl
     have HNUM := hid (HNM.out j _ hsome)
     rcases ((HX.out.below hbw).below hb9).row with h0 | ⟨b, o, ha, hbl, hc⟩
     ·rw [h0] at hjl; simp at hjl
     subst ha
     have hc := hc j hjl
     clear hsome hjl
     generalize h[j]?.getD default = x at *
     have c0 : wr.cell? ⟨b, o + j * 7, none⟩ = some (.int .i64 x.num) := hc 0 _ rfl
     have c1 := hc 1 _ rfl
     have c2 := hc 2 _ rfl
     have c3 := hc 3 _ rfl
     have c4 := hc 4 _ rfl
     have c5 := hc 5 _ rfl
     have c6 := hc 6 _ rfl
     clear hc
     have hbz : Below wr.heap.size wr (wr.alloc (.cells #[.int .i64 x.num, .int .i64 x.s.s0, .int .i64 x.s.s1, .int .i64 x.s.s2, .slice x.s.ra x.s.rs.length x.s.rc, .slice x.s.sa x.s.ss.length x.s.sc, .slice x.s.wa x.s.ws.length x.s.wc] 73)) := Below.alloc1 (Nat.le_refl _) (Below.refl _ _) _
     have hX5 : (wr.alloc (.cells #[.int .i64 x.num, .int .i64 x.s.s0, .int .i64 x.s.s1, .int .i64 x.s.s2, .slice x.s.ra x.s.rs.length x.s.rc, .slice x.s.sa x.s.ss.length x.s.sc, .slice x.s.wa x.s.ws.length x.s.wc] 73)).cell? ⟨wr.heap.size, 0, none⟩ = some (.int .i64 x.num) := by simp [go_sem]
     have hL5 := own_keep HL.out fun q cur _ hq => hbz.block q (Array.getElem?_eq_some_iff.1 hq).1
     have hb5 := hb9.trans (hbz.mono hb9.size)
     have hz5 : wr.heap.size < (wr.alloc (.cells #[.int .i64 x.num, .int .i64 x.s.s0, .int .i64 x.s.s1, .int .i64 x.s.s2, .slice x.s.ra x.s.rs.length x.s.rc, .slice x.s.sa x.s.ss.length x.s.sc, .slice x.s.wa x.s.ws.length x.s.wc] 73)).heap.size := by simp
     go_upto_region 14 with fail
     clear c0 c1 c2 c3 c4 c5 c6 hbz HL hb9
     generalize wr.alloc (.cells #[.int .i64 x.num, .int .i64 x.s.s0, .int .i64 x.s.s1, .int .i64 x.s.s2, .slice x.s.ra x.s.rs.length x.s.rc, .slice x.s.sa x.s.ss.length x.s.sc, .slice x.s.wa x.s.ws.length x.s.wc] 73) = W5 at *
     obtain ⟨a2, c2, w2, hr2, hO2, hb2, -, -⟩ := appN x.num (upN_len j) hL5 hb5.size (by omega)
     rw [HNUM.out, ← upN_snoc] at hO2
     have HO2 := hid hO2
     have HB2 := hid (hb5.trans hb2)
     clear hL5 hb5 hO2 hb2
     go_wp2_with (at_builtin; refine Lib.wpList_append_run _ rfl _ _ _ _ rfl _ _ rfl rfl _ _ (hr2 _) ?_)
     go_roundw
     case rel => exact ⟨j + 1, a2, c2, by go_num, rfl, by omega, HO2, HB2.out⟩
     case measure => simp [intOf]; omega
    ·obtain rfl : j = n := by omega
     have hge2 : ¬ (j : Int) < (j : Int) := by omega
     have HA9 := hid (HA.out.below hb9)
     have hg9 : W8.grownBy wr (some A) := ⟨hb9.os, hb9.tape, hb9.output, hb9.size, fun k hk _ => hb9.block k hk⟩
     have HL9 := HL
     clear hb9 HL HA
     go_upto_region 16 with fail
     go_loopw [2, 3] (fun t2 t3 wx => ∃ (o l' : List Int) (av : Nat → Int) (ao : Option Addr) (co : Nat) (al : Option Addr) (cl no nl : Nat), t2 = .slice ao no co ∧ t3 = .slice al nl cl ∧ Hid (no = o.length) ∧ Hid (nl = l'.length) ∧
      Hid (wx.ownsRow W8.heap.size 2 1 (.slice ao no co) no (nCells o)) ∧ Hid (wx.ownsRow W8.heap.size 2 1 (.slice al nl cl) nl (nCells l')) ∧ Hid (∀ g, (Value.slice ao no co).ownBlock = some g → (Value.slice al nl cl).ownBlock ≠ some g) ∧
      Hid (AheadAt wx X A j av) ∧ W8.grownBy wx (some A) ∧ Hid (∀ k ∈ upN j, av k.toNat = ((l'.filter fun m => lead h m k).length : Nat)) ∧
      Hid (topo (lead h) j (upN j) = (o ++ (topo (lead h) l'.length l').1, (topo (lead h) l'.length l').2)) ∧ Hid (l'.Nodup) ∧ Hid (∀ x ∈ l', x ∈ upN j) ∧ no + nl = j) (fun _ t3 _ => lenV t3)
     case atStart => exact ⟨[], upN j, cntTo l i, none, 0, al, cl, 0, j, rfl, rfl, hid rfl, hid (upN_len j).symm, hid (World.ownsRow_nil _ _ _ _), HL9, hid (fun g e => by cases e), HA9, hg9, HAV, hid (by rw [upN_len]; rfl), hid (rise_nodup (upN_rise _)), hid (fun x hx => hx), by omega⟩
     case round =>
      obtain ⟨o, l', av, ao, co, al, cl, no, nl, rfl, rfl, HNO, HNL, HO, HL, HAP, HAv, hgw, HCN, HTP, HND, HSB, hsum⟩ := hrel
      clear hg9 HA9 HL9
      have hw : Below w.heap.size w wr := below_grownA hbw hgw hCA hz8
      have hszw := hw.size
      have HIX := idxSort_any (fun x => decide (av x.toNat = 0)) al cl X l' nl wr HNL.out.symm (own_nat HNL.out.symm HL.out (by unfold maxLen; omega)) (fun W x hb hx => sort1_any x X A j av W (HAv.out.below hb) (by have := upN_mem.1 (HSB.out x hx); omega) hm)
      rw [idxB_congr (q := freeN (lead h) l') fun x hx => by
       rw [HCN.out x (HSB.out x hx)]
       unfold freeN
       rw [Bool.eq_iff_iff, decide_eq_true_eq, Bool.not_eq_true', List.any_eq_false]
       constructor
       ·intro h0 m hm
        have : (l'.filter fun m => lead h m x).length = 0 := by omega
        have := List.eq_nil_of_length_eq_zero this
        rw [List.filter_eq_nil_iff] at this
        exact this m hm
       ·intro h0
        have : l'.filter (fun m => lead h m x) = [] := by rw [List.filter_eq_nil_iff]; exact h0
        rw [this]; rfl] at HIX
      obtain ⟨r, hr⟩ : ∃ r, r = idxB (freeN (lead h) l') l' := ⟨_, rfl⟩
      rw [← hr] at HIX
      by_cases hneg : r < 0
      ·have hfin : sortV h = (o, l') := by
        unfold sortV
        rw [if_pos HR.out, HN.out, HTP.out, topo_end (find_none (by rw [← hr]; exact hneg))]
        simp
       have HFIN := hid hfin
       clear hr hfin
       go_wp2_with (go_at_call 105; (with_reducible refine (HIX).mono ?_); rintro e w1 ⟨rfl, hb1⟩; obtain ⟨hc1, hf1⟩ := bcell hb1; (try simp only [World.heap_drewN, World.cell?_drewN, World.frozen?_drewN] at hc1 hf1); have hz1 := hb1.size; (try simp at hz1); (try have hy1_0 : w.heap.size < w1.heap.size := by omega); (try have hy1_1 : w.heap.size + 1 < w1.heap.size := by omega); (try have hx1_0 : w.heap.size ≤ w1.heap.size := by omega); (try have hx1_1 : w.heap.size + 1 ≤ w1.heap.size := by omega))
       refine bodyPost_ret (v := .tuple #[.slice ao no co, .slice al nl cl]) (by simp [results, Tryz.results59, go_sem]) rfl ?_
       have hwf := hw.trans (hb1.mono hszw)
       rw [HFIN.out]
       refine ⟨ao, co, al, cl, by rw [HNO.out, HNL.out], ?_, ?_, hwf⟩
       ·rw [← HNO.out]; exact K.own_le (own_keep HO.out fun q cur _ hq => hb1.block q (Array.getElem?_eq_some_iff.1 hq).1) hz8
       ·rw [← HNL.out]; exact K.own_le (own_keep HL.out fun q cur _ hq => hb1.block q (Array.getElem?_eq_some_iff.1 hq).1) hz8
      ·obtain ⟨q, rfl⟩ : ∃ q : Nat, r = (q : Int) := ⟨r.toNat, by omega⟩
       obtain ⟨hql, hfind⟩ := find_idx hr.symm
       have hqn : q < nl := by rw [HNL.out]; exact hql
       have hqn' : (q : Int) < (nl : Int) := by omega
       have hrow := HL.out
       rcases hrow.2 with ⟨_, h2⟩ | ⟨gl, cap, cur, h1, -⟩
       ·omega
       injection h1 with ha _ hcap2
       subst ha; subst hcap2
       have q1 := hrow.cells (g := gl) rfl q (.int .i64 l'[q]) (by unfold nCells; rw [List.getElem?_map, List.getElem?_eq_getElem hql]; rfl)
       rw [K.addr0] at q1
       have hgl := hrow.lt gl rfl
       have hmem : l'[q] ∈ l' := List.getElem_mem hql
       obtain ⟨n1, n2⟩ := upN_mem.1 (HSB.out _ hmem)
       have hers := erase_idx HND.out hql
       have hstep := topo_step hfind
       clear hr hfind
       generalize l'[q] = nn at *
       obtain ⟨m, rfl⟩ : ∃ m : Nat, nn = (m : Int) := ⟨nn.toNat, by omega⟩
       have hmj : m ≤ j := by omega
       have hmU : (m : Int) ∈ upN j := HSB.out _ hmem
       have HMU := hid hmU; have HERS := hid hers; have HSTEP := hid hstep; have HMEM := hid hmem
       clear hers hstep hmU hmem
       go_upto_region 19 with (go_at_call 105; (with_reducible refine (HIX).mono ?_); rintro e w1 ⟨rfl, hb1⟩; obtain ⟨hc1, hf1⟩ := bcell hb1; (try simp only [World.heap_drewN, World.cell?_drewN, World.frozen?_drewN] at hc1 hf1); have hz1 := hb1.size; (try simp at hz1); (try have hy1_0 : w.heap.size < w1.heap.size := by omega); (try have hy1_1 : w.heap.size + 1 < w1.heap.size := by omega); (try have hx1_0 : w.heap.size ≤ w1.heap.size := by omega); (try have hx1_1 : w.heap.size + 1 ≤ w1.heap.size := by omega))
       have hO1 := own_keep HO.out fun q cur _ hq => hb1.block q (Array.getElem?_eq_some_iff.1 hq).1
       have hL1 := own_keep hrow fun q cur _ hq => hb1.block q (Array.getElem?_eq_some_iff.1 hq).1
       have q2 := (hb1.cell (p := ⟨gl, q, none⟩) hgl.2).trans q1
       have hA1 := HAv.out.below hb1
       have hg1 : W8.grownBy w1 (some A) := grownA_below hgw hb1 hgw.size
       have hgl2 : gl < w1.heap.size := Nat.lt_of_lt_of_le hgl.2 hb1.size
       clear q1 hrow HIX hb1 hgl hc1 hf1 hz1
       have HO1 := hid hO1; have HL1 := hid hL1; have HA1 := hid hA1; have HG1 := hid hg1
       clear hO1 hL1 hA1 hg1
       go_upto_region 20 with fail
       obtain ⟨a2, c2, w2, hr2, hO2, hb2, hg2, hfr2⟩ := appN (m : Int) HNO.out.symm HO1.out HG1.out.size (by omega)
       have hL2 := own_keep HL1.out fun g cur hgo hq => hg2.block g (Array.getElem?_eq_some_iff.1 hq).1 fun e => HAP.out g e.symm hgo
       have hAP2 : ∀ g, (Value.slice a2 (no + 1) c2).ownBlock = some g → (Value.slice (some ⟨gl, 0, none⟩) nl cl).ownBlock ≠ some g := fun g hg e => by
        rcases hfr2 with h1 | h1 | ⟨g', h1, h2⟩
        ·exact HAP.out g (h1 ▸ hg) e
        ·rw [h1] at hg; cases hg
        ·rw [h1] at hg
         cases hg
         have := (HL1.out.lt _ e).2
         omega
       have hA2 := HA1.out.own HO1.out hg2
       have hg2' : W8.grownBy w2 (some A) := grownA_own HG1.out hg2 (fun g hg => (HO1.out.lt g hg).1)
       have HO2 := hid hO2; have HL2 := hid hL2; have HA2 := hid hA2; have HG2 := hid hg2'; have HAP2 := hid hAP2
       clear hO2 hb2 hg2 hfr2 hL2 hAP2 hA2 hg2' HO1 HL1 HA1 HG1 q2
       go_upto_region 21 with (at_builtin; refine Lib.wpList_append_run _ rfl _ _ _ _ rfl _ _ rfl rfl _ _ (hr2 _) ?_)
       have HDEL := del_any q HNL.out.symm HL2.out hqn
       rw [show ((q + 1 : Nat) : Int) = (q : Int) + 1 by omega] at HDEL
       have HDEL := hid HDEL
       have hq64 : (q : Int) + 1 ≤ 65 := by omega
       clear hr2
       go_wp2_with fail
       refine HDEL.out.mono ?_
       rintro e w3 ⟨rfl, hL3, hg3⟩
       have hO3 := own_keep HO2.out fun g cur hgo hq => hg3.block g (Array.getElem?_eq_some_iff.1 hq).1 fun e => HAP2.out g hgo e.symm
       have hA3 := HA2.out.own HL2.out hg3
       have hg3' : W8.grownBy w3 (some A) := grownA_own HG2.out hg3 (fun g hg => (HL2.out.lt g hg).1)
       rw [HERS.out] at hL3
       have hbc := ((HBR.out w3 hg3').cell hmj).1
       have hbse : fromT l i m = fromN h m := by have := HBS.out (m : Int) HMU.out; rwa [Int.toNat_natCast] at this
       have HBN := hid fun W (hg : W8.grownBy W (some A)) => own_nat rfl ((HBR.out W hg).own m hmj) (by have := fromT_len l i m; unfold maxLen; omega)
       rw [hbse] at hbc HBN
       have hHl := (HBR.out w3 hg3').lt
       have hfl : (fromN h m).length ≤ 64 := Nat.le_trans (List.length_filter_le _ _) (by rw [upN_len, HN.out]; omega)
       generalize (f m).1 = fa at *
       generalize (f m).2 = fc at *
       obtain ⟨L, hLe⟩ : ∃ L, L = (fromN h m).length := ⟨_, rfl⟩
       rw [← hLe] at hbc hfl
       have HLE2 := hid hLe
       have HO3 := hid hO3; have HL3 := hid hL3; have HA3 := hid hA3; have HG3 := hid hg3'
       have hmj' : (m : Int) < (j : Int) + 1 := by omega
       clear HDEL hL3 hg3 hO3 hA3 hg3' hbse hLe HO2 HL2 HA2 HG2
       go_upto_region 23 with fail
       clear hbc hHl
       go_loopw [90] (fun t90 wx => ∃ p : Nat, t90 = .int .i64 (p : Nat) ∧ p ≤ L ∧ Hid (AheadAt wx X A j (fun k => av k - ((((fromN h m).take p).count (k : Int) : Nat) : Int))) ∧ Hid (wx.ownsRow W8.heap.size 2 1 (.slice a2 (no + 1) c2) (no + 1) (nCells (o ++ [(m : Int)]))) ∧ Hid (wx.ownsRow W8.heap.size 2 1 (.slice (some ⟨gl, 0, none⟩) (nl - 1) cl) (nl - 1) (nCells (l'.erase (m : Int)))) ∧ W8.grownBy wx (some A)) (fun t90 _ => L - (intOf t90).toNat)
       case atStart => exact ⟨0, rfl, Nat.zero_le _, hid (by simpa using HA3.out), HO3, HL3, HG3.out⟩
       case round =>
        obtain ⟨p, rfl, hp, HAP4, HO4, HL4, hg4⟩ := hrel
        by_cases hpl : p < L
        ·have hpl' : (p : Int) < (L : Int) := by omega
         have hpf : p < (fromN h m).length := by rw [← HLE2.out]; exact hpl
         have hsome : (fromN h m)[p]? = some ((fromN h m)[p]?.getD 0) := by rw [List.getElem?_eq_getElem hpf]; rfl
         rcases (HBN.out wr hg4).row with h0 | ⟨b, oo, ha, hbl, hc⟩
         ·rw [h0] at hpf; simp at hpf
         have hc := hc p hpf
         have hyU : (fromN h m)[p]?.getD 0 ∈ upN j := by
          have := List.mem_of_getElem? hsome
          unfold fromN at this
          rw [← HN.out]
          exact (List.mem_filter.1 this).1
         have htk : (fromN h m).take (p + 1) = (fromN h m).take p ++ [(fromN h m)[p]?.getD 0] := by rw [List.take_add_one, hsome]; rfl
         have hyp := upN_mem.1 hyU
         have hcy := HCN.out _ hyU
         subst ha
         clear hsome hpf
         generalize (fromN h m)[p]?.getD 0 = y at *
         obtain ⟨yy, rfl⟩ : ∃ yy : Nat, y = (yy : Int) := ⟨y.toNat, by omega⟩
         rw [Int.toNat_natCast] at hcy
         have hyj : yy ≤ j := by omega
         have a0 := HAP4.out.c0
         obtain ⟨ak, af⟩ := HAP4.out.cell hyj
         obtain ⟨hax, haa⟩ := HAP4.out.lt
         obtain ⟨hA5, hg5⟩ := HAP4.out.set hyj (av yy - ((((fromN h m).take p).count (yy : Int) : Nat) : Int) - 1)
         have hcl : ((fromN h m).take p).count (yy : Int) ≤ 64 := Nat.le_trans List.count_le_length (by rw [List.length_take]; omega)
         have hfl2 : (l'.filter fun m => lead h m (yy : Int)).length ≤ 64 := Nat.le_trans (List.length_filter_le _ _) (by have := HNL.out; omega)
         have hfun : (fun k => if k = yy then av yy - ((((fromN h m).take p).count (yy : Int) : Nat) : Int) - 1 else av k - ((((fromN h m).take p).count (k : Int) : Nat) : Int)) = fun k => av k - ((((fromN h m).take (p + 1)).count (k : Int) : Nat) : Int) := by
          funext k
          rw [htk, List.count_append]
          by_cases hk : k = yy
          ·subst hk
           rw [if_pos rfl]
           simp; omega
          ·rw [if_neg hk]
           have : List.count (k : Int) [(yy : Int)] = 0 := by rw [List.count_eq_zero]; simp; omega
           rw [this, Nat.add_zero]
         rw [hfun] at hA5
         have hO5 := own_keep HO4.out fun g cur _ hq => hg5.block g (Array.getElem?_eq_some_iff.1 hq).1 fun e => by
          have e1 := Option.some.inj e
          rw [e1, HAP4.out.row] at hq
          simp only [Option.some.injEq, Obj.cells.injEq] at hq
          exact absurd hq.2.1 (by decide)
         have hL5 := own_keep HL4.out fun g cur _ hq => hg5.block g (Array.getElem?_eq_some_iff.1 hq).1 fun e => by
          have e1 := Option.some.inj e
          rw [e1, HAP4.out.row] at hq
          simp only [Option.some.injEq, Obj.cells.injEq] at hq
          exact absurd hq.2.1 (by decide)
         have HA5 := hid hA5; have HO5 := hid hO5; have HL5 := hid hL5; have HG5 := hid (grownA_set hg4 hg5)
         have hv1 : -200 ≤ av yy - ((((fromN h m).take p).count (yy : Int) : Nat) : Int) := by omega
         have hv2 : av yy - ((((fromN h m).take p).count (yy : Int) : Nat) : Int) ≤ 200 := by omega
         have hyj' : (yy : Int) < (j : Int) + 1 := by omega
         clear hA5 hg5 hO5 hL5 hfun htk hcy hyU hyp hcl hfl2
         generalize av yy - ((((fromN h m).take p).count (yy : Int) : Nat) : Int) = cv at *
         go_wp2_with fail
         go_roundw
         case rel => exact ⟨p + 1, by go_num, by omega, HA5, HO5, HL5, HG5.out⟩
         case measure => simp [intOf]; omega
        ·obtain rfl : p = L := by omega
         have hge3 : ¬ (p : Int) < (p : Int) := by omega
         have htk : (fromN h m).take p = fromN h m := by rw [HLE2.out]; exact List.take_length
         have HA6 := HAP4.out
         rw [htk] at HA6
         have HA6 := hid HA6
         have hlen := List.length_erase_of_mem HMEM.out
         have hCN6 : ∀ k ∈ upN j, av k.toNat - (((fromN h m).count ((k.toNat : Nat) : Int) : Nat) : Int) = (((l'.erase (m : Int)).filter fun x => lead h x k).length : Nat) := fun k hk => by
          obtain ⟨k1, k2⟩ := upN_mem.1 hk
          rw [HCN.out k hk, show ((k.toNat : Nat) : Int) = k by omega, ← filter_erase (p := fun x => lead h x k) HND.out HMEM.out]
          have hcn : (fromN h m).count k = if lead h m k = true then 1 else 0 := by
           have hnd : (fromN h m).Nodup := by unfold fromN; exact (rise_nodup (upN_rise _)).sublist List.filter_sublist
           by_cases hld : lead h m k = true
           ·rw [if_pos hld]
            have h3 := List.count_pos_iff.2 (show k ∈ fromN h m from List.mem_filter.2 ⟨by rw [HN.out]; exact hk, hld⟩)
            have h4 := List.nodup_iff_count.1 hnd k
            omega
           ·rw [if_neg hld, List.count_eq_zero]
            exact fun hm => hld (List.mem_filter.1 hm).2
          rw [hcn]
          by_cases hld : lead h m k = true
          ·simp [hld]
          ·simp [hld]
         have HCN6 := hid hCN6
         have HAP6 : Hid (∀ g, (Value.slice a2 (no + 1) c2).ownBlock = some g → (Value.slice (some ⟨gl, 0, none⟩) (nl - 1) cl).ownBlock ≠ some g) := hid HAP2.out
         have hTP6 : topo (lead h) j (upN j) = ((o ++ [(m : Int)]) ++ (topo (lead h) (l'.erase (m : Int)).length (l'.erase (m : Int))).1, (topo (lead h) (l'.erase (m : Int)).length (l'.erase (m : Int))).2) := by
          rw [HTP.out, HSTEP.out]
          simp
         have HTP6 := hid hTP6
         have HNL6 : Hid (nl - 1 = (l'.erase (m : Int)).length) := hid (by rw [hlen, HNL.out])
         have HNO6 : Hid (no + 1 = (o ++ [(m : Int)]).length) := hid (by rw [List.length_append, HNO.out]; rfl)
         have HND6 : Hid ((l'.erase (m : Int)).Nodup) := hid (HND.out.sublist List.erase_sublist)
         have HSB6 : Hid (∀ x ∈ l'.erase (m : Int), x ∈ upN j) := hid fun x hx => HSB.out x (List.mem_of_mem_erase hx)
         clear hCN6 hTP6 htk hlen
         go_wp2_with fail
         go_roundw
         case rel => exact ⟨o ++ [(m : Int)], l'.erase (m : Int), _, a2, c2, some ⟨gl, 0, none⟩, cl, no + 1, nl - 1, rfl, rfl, HNO6, HNL6, HO4, HL4, HAP6, HA6, hg4, HCN6, HTP6, HND6, HSB6, by omega⟩
         case measure => simp [lenV]; omega
end Go.Proofs.YtekmadgacepdfaaGreat.T
namespace Go.Proofs.YtekmadgacepdfaaGreat.T
set_option linter.unusedVariables false
open Go.RowKit Fl Go.Shelf
set_option linter.unusedSimpArgs false

def ordV (h : List DoneV) : List Int × Bool := if rightV h = true ∧ (sortV h).2 = [] then ((sortV h).1, true) else ([], false)
def OrderRet (r : List Int × Bool) (w : World) (e : Ending) (w' : World) : Prop := ∃ a c, e = .returned (.tuple #[.slice a r.1.length c, .bool r.2]) ∧ w'.ownsRow w.heap.size 2 1 (.slice a r.1.length c) r.1.length (nCells r.1) ∧ Below w.heap.size w w'
def NumsRetT (l : List Int) (w : World) (e : Ending) (w' : World) : Prop := ∃ a c, e = .returned (.slice a l.length c) ∧ w'.ownsRow w.heap.size 2 1 (.slice a l.length c) l.length (nCells l) ∧ Below w.heap.size w w'
set_option maxRecDepth 100000 in
theorem order_any (a : Option Addr) (c n : Nat) (h : List DoneV) (w : World) (hn : h.length = n) (hcap : n ≤ c) (hh : HAt w a h) :
  Calls Tryz.prog 31 #[.slice a n c] w (OrderRet (ordV h) w) := by
 have HS := sort_any a c n h w hn hcap hh
 have HR := fun W (hb : Below w.heap.size w W) => right_any a c n h _ W hn hcap (hh.below hb) rfl
 have HSORT := hid (rfl : sortV h = sortV h)
 obtain ⟨o, l, hol⟩ : ∃ o l, sortV h = (o, l) := ⟨_, _, rfl⟩
 have HOL := hid hol
 rw [hol] at HS
 have hord : ordV h = if rightV h = true ∧ l = [] then (o, true) else ([], false) := by unfold ordV; rw [hol]
 obtain ⟨rr, hrr⟩ : ∃ rr, rr = ordV h := ⟨_, rfl⟩
 rw [← hrr]
 have HRR := hid (hrr.trans hord)
 clear hol hord hh hn HSORT hrr
 go_enter Tryz.func31, Tryz.ntmps31
 go_upto_region 1 with fail
 go_wp2_with fail
 refine HS.mono ?_
 rintro e w1 ⟨ao, co, al, cl, rfl, hO, hL, hb1⟩
 have HO := hid hO; have HL := hid hL
 have hll : l.length ≤ 1000000 ∨ 1000000 < l.length := Nat.lt_or_ge 1000000 l.length |>.symm
 have HRW := HR w1 hb1
 clear HR hO hL HS
 cases hr : rightV h
 ·rw [hr] at HRW
  have hrr := HRR.out
  rw [if_neg (by rw [hr]; simp)] at hrr
  subst hrr
  clear hr
  generalize o.length = no at *
  generalize l.length = nl at *
  go_wp2_with (go_at_call 29; (with_reducible refine (HRW).mono ?_); rintro e w2 ⟨rfl, hb2⟩; obtain ⟨hc2, hf2⟩ := bcell hb2; (try simp only [World.heap_drewN, World.cell?_drewN, World.frozen?_drewN] at hc2 hf2); have hz2 := hb2.size; (try simp at hz2); (try have hy2_0 : w.heap.size < w2.heap.size := by omega); (try have hy2_1 : w.heap.size + 1 < w2.heap.size := by omega); (try have hx2_0 : w.heap.size ≤ w2.heap.size := by omega); (try have hx2_1 : w.heap.size + 1 ≤ w2.heap.size := by omega))
  refine bodyPost_ret (v := .tuple #[.slice none 0 0, .bool false]) (by simp [results, Tryz.results31, go_sem]) rfl ?_
  exact ⟨none, 0, rfl, World.ownsRow_nil _ _ _ _, hb1.trans (hb2.mono hb1.size)⟩
 ·rw [hr] at HRW
  cases l with
  | nil =>
   have hrr := HRR.out
   rw [if_pos ⟨hr, rfl⟩] at hrr
   subst hrr
   clear hr
   obtain ⟨no, hno⟩ : ∃ no, no = o.length := ⟨_, rfl⟩
   rw [← hno]
   simp only [List.length_nil]
   have HO : Hid (w1.ownsRow w.heap.size 2 1 (.slice ao no co) no (nCells o)) := hid (by rw [hno]; exact HO.out)
   have HNO := hid hno
   clear hno
   go_wp2_with (go_at_call 29; (with_reducible refine (HRW).mono ?_); rintro e w2 ⟨rfl, hb2⟩; obtain ⟨hc2, hf2⟩ := bcell hb2; (try simp only [World.heap_drewN, World.cell?_drewN, World.frozen?_drewN] at hc2 hf2); have hz2 := hb2.size; (try simp at hz2); (try have hy2_0 : w.heap.size < w2.heap.size := by omega); (try have hy2_1 : w.heap.size + 1 < w2.heap.size := by omega); (try have hx2_0 : w.heap.size ≤ w2.heap.size := by omega); (try have hx2_1 : w.heap.size + 1 ≤ w2.heap.size := by omega))
   refine bodyPost_ret (v := .tuple #[.slice ao no co, .bool true]) (by simp [results, Tryz.results31, go_sem]) rfl ?_
   exact ⟨ao, co, by rw [← HNO.out], by rw [← HNO.out]; exact own_keep HO.out fun q cur _ hq => hb2.block q (Array.getElem?_eq_some_iff.1 hq).1, hb1.trans (hb2.mono hb1.size)⟩
  | cons x l =>
   have hrr := HRR.out
   rw [if_neg (by simp)] at hrr
   subst hrr
   clear hr
   have hpos : (0 : Int) < ((x :: l).length : Nat) := by rw [List.length_cons]; omega
   generalize (x :: l).length = nl at *
   generalize o.length = no at *
   go_wp2_with (go_at_call 29; (with_reducible refine (HRW).mono ?_); rintro e w2 ⟨rfl, hb2⟩; obtain ⟨hc2, hf2⟩ := bcell hb2; (try simp only [World.heap_drewN, World.cell?_drewN, World.frozen?_drewN] at hc2 hf2); have hz2 := hb2.size; (try simp at hz2); (try have hy2_0 : w.heap.size < w2.heap.size := by omega); (try have hy2_1 : w.heap.size + 1 < w2.heap.size := by omega); (try have hx2_0 : w.heap.size ≤ w2.heap.size := by omega); (try have hx2_1 : w.heap.size + 1 ≤ w2.heap.size := by omega))
   refine bodyPost_ret (v := .tuple #[.slice none 0 0, .bool false]) (by simp [results, Tryz.results31, go_sem]) rfl ?_
   exact ⟨none, 0, rfl, World.ownsRow_nil _ _ _ _, hb1.trans (hb2.mono hb1.size)⟩
theorem stuck_any (a : Option Addr) (c n : Nat) (h : List DoneV) (w : World) (hn : h.length = n) (hcap : n ≤ c) (hh : HAt w a h) :
  Calls Tryz.prog 32 #[.slice a n c] w (NumsRetT (sortV h).2 w) := by
 have HS := sort_any a c n h w hn hcap hh
 clear hh hn
 go_enter Tryz.func32, Tryz.ntmps32
 go_upto_region 1 with fail
 go_wp2_with fail
 refine HS.mono ?_
 rintro e w1 ⟨ao, co, al, cl, rfl, hO, hL, hb1⟩
 obtain ⟨nl, hnl⟩ : ∃ nl, nl = (sortV h).2.length := ⟨_, rfl⟩
 have HL := hid hL
 rw [← hnl]
 have HNL := hid hnl
 clear hL hO hnl
 go_wp2_with fail
 go_ret
 exact ⟨al, cl, by rw [← HNL.out]; rfl, HL.out, hb1⟩
theorem ver_snoc {h : List DoneV} {k : Nat} {snap : Int} {i : Nat} {x : DoneV} (hx : h[i]? = some x) : versionV (h.take (i + 1)) k snap = if (decide (x.num ≤ snap) && x.s.writes k) = true then x.num else versionV (h.take i) k snap := by
 unfold versionV lastOf
 rw [List.take_add_one, hx, List.filter_append, List.map_append]
 by_cases hc : (decide (x.num ≤ snap) && x.s.writes k) = true
 ·rw [if_pos hc]
  simp only [Option.toList_some, List.filter_cons, hc, if_true, List.filter_nil, List.map_cons, List.map_nil]
  rw [List.getLast?_concat]; rfl
 ·rw [if_neg hc]
  simp only [Option.toList_some, List.filter_cons, List.filter_nil]
  rw [if_neg hc]
  simp
set_option maxHeartbeats 1000000 in
set_option maxRecDepth 100000 in
theorem version_any (a : Option Addr) (c n : Nat) (h : List DoneV) (key : Nat) (snap : Int) (w : World) (hn : h.length = n) (hh : HAt w a h) :
  Calls Tryz.prog 64 #[.slice a n c, .float .f64 key, .int .i64 snap] w (Ret (.int .i64 (versionV h key snap)) w) := by
 have hm := hh.len
 rw [hn] at hm
 have HX := hid hh
 have HN := hid hn
 clear hh hn
 go_enter Tryz.func64, Tryz.ntmps64
 go_upto_region 3 with fail
 go_loopw [7, 12] (fun t7 t12 wr => ∃ k : Nat, t12 = .int .i64 (k : Nat) ∧ t7 = .int .i64 (versionV (h.take k) key snap) ∧ k ≤ n ∧ Below w.heap.size w wr) (fun _ t12 _ => n - (intOf t12).toNat)
 case atStart => exact ⟨0, rfl, rfl, Nat.zero_le _, Below.refl _ _⟩
 case round =>
  obtain ⟨k, rfl, rfl, hk, hbw⟩ := hrel
  by_cases hlt : k < n
  ·have hkl : k < h.length := by rw [HN.out]; exact hlt
   have hlt' : (k : Int) < (n : Int) := by omega
   have hsz := hbw.size
   have hkx : Hid (h[k]? = some (h[k]?.getD default)) := hid (by rw [List.getElem?_eq_getElem hkl]; rfl)
   rcases (HX.out.below hbw).row with h0 | ⟨b, o, ha, hbl, hc⟩
   ·rw [h0] at hkl; simp at hkl
   subst ha
   have hc := hc k hkl
   have HS := hid (HX.out.sub k hkl)
   clear hkl
   generalize h[k]?.getD default = x at *
   have c0 : wr.cell? ⟨b, o + k * 7, none⟩ = some (.int .i64 x.num) := hc 0 _ rfl
   have c1 := hc 1 _ rfl
   have c2 := hc 2 _ rfl
   have c3 := hc 3 _ rfl
   have c4 := hc 4 _ rfl
   have c5 := hc 5 _ rfl
   have c6 := hc 6 _ rfl
   clear hc
   have HW := fun W (hb : Below w.heap.size w W) => subWrites_any x.s key W (HS.out.below hb)
   have HSN := hid (ver_snoc (k := key) (snap := snap) hkx.out)
   generalize versionV (h.take k) key snap = v at *
   obtain ⟨bw, hbw'⟩ : ∃ bw, x.s.writes key = bw := ⟨_, rfl⟩
   rw [hbw'] at HW
   have HBW := hid hbw'
   clear hbw'
   by_cases q1 : x.num ≤ snap
   ·cases bw
    ·have HV : Hid (v = versionV (h.take (k + 1)) key snap) := hid (by rw [HSN.out, HBW.out]; simp)
     go_wp2_with (go_at_call 65; (with_reducible refine (HW _ (by exact below_auto)).mono ?_); rintro e w1 ⟨rfl, hb1⟩; obtain ⟨hc1, hf1⟩ := bcell hb1; (try simp only [World.heap_drewN, World.cell?_drewN, World.frozen?_drewN] at hc1 hf1); have hz1 := hb1.size; (try simp at hz1); (try have hy1_0 : w.heap.size < w1.heap.size := by omega); (try have hy1_1 : w.heap.size + 1 < w1.heap.size := by omega); (try have hx1_0 : w.heap.size ≤ w1.heap.size := by omega); (try have hx1_1 : w.heap.size + 1 ≤ w1.heap.size := by omega))
     go_roundw
     case rel => exact ⟨k + 1, by go_num, by rw [← HV.out], by omega, by exact below_auto⟩
     case measure => simp [intOf]; omega
    ·have HV : Hid (x.num = versionV (h.take (k + 1)) key snap) := hid (by rw [HSN.out, HBW.out]; simp [q1])
     go_wp2_with (go_at_call 65; (with_reducible refine (HW _ (by exact below_auto)).mono ?_); rintro e w1 ⟨rfl, hb1⟩; obtain ⟨hc1, hf1⟩ := bcell hb1; (try simp only [World.heap_drewN, World.cell?_drewN, World.frozen?_drewN] at hc1 hf1); have hz1 := hb1.size; (try simp at hz1); (try have hy1_0 : w.heap.size < w1.heap.size := by omega); (try have hy1_1 : w.heap.size + 1 < w1.heap.size := by omega); (try have hx1_0 : w.heap.size ≤ w1.heap.size := by omega); (try have hx1_1 : w.heap.size + 1 ≤ w1.heap.size := by omega))
     go_roundw
     case rel => exact ⟨k + 1, by go_num, by rw [← HV.out], by omega, by exact below_auto⟩
     case measure => simp [intOf]; omega
   ·have HV : Hid (v = versionV (h.take (k + 1)) key snap) := hid (by rw [HSN.out]; simp [q1])
    clear HW
    go_wp2_with fail
    go_roundw
    case rel => exact ⟨k + 1, by go_num, by rw [← HV.out], by omega, by exact below_auto⟩
    case measure => simp [intOf]; omega
  ·obtain rfl : k = n := by omega
   have hge : ¬ (k : Int) < (k : Int) := by omega
   have htk : h.take k = h := by rw [← HN.out]; exact List.take_length
   rw [htk]
   generalize versionV h key snap = v at *
   go_wp2_with fail
   go_ret
   exact ⟨rfl, hbw⟩
end Go.Proofs.YtekmadgacepdfaaGreat.T
namespace Go.Proofs.YtekmadgacepdfaaGreat.T
set_option linter.unusedVariables false
open Go.RowKit Fl Go.Maps Go.Sort Go.Shelf
set_option linter.unusedSimpArgs false

set_option maxRecDepth 100000 in
set_option maxHeartbeats 2000000 in
/-- The iterator over a row of numbers, where the caller's rounds leave what lay there. -/
theorem values1_in (m l Bx c n : Nat) (a : Option Addr) (xs : List Int) (J : List Int → World → Prop) (w W : World) (hn : xs.length = n) (hm : 1 ≤ m) (hBx : w.cell? ⟨Bx, 0, none⟩ = some (.slice a n c)) (hlt : Bx < w.heap.size) (hx : NAt w a xs)
  (hJb : ∀ pre W', J pre W' → Below w.heap.size w W')
  (hY : ∀ pre x W1, J pre W1 → pre.length < n → YieldAt Fence.wide (m - 1) Tryz.prog l #[encZ x] W1 fun e W' => e = .returned (.bool true) ∧ J (pre ++ [x]) W' ∧ KeepsWalks W1 W') (h0 : J [] W) :
  CallsIn Fence.wide m Tryz.prog 108 #[.func (.yield l) #[] #[], .pointer (some ⟨Bx, 0, none⟩)] W fun e W' => (∃ v, e = .returned v) ∧ J xs W' := by
 have c0 := ((hJb [] W h0).cell (p := ⟨Bx, 0, none⟩) hlt).trans hBx
 have hsz := (hJb [] W h0).size
 have hlW : Bx < W.heap.size := by omega
 obtain ⟨hrow, hmx⟩ := hx
 rw [hn] at hmx
 unfold maxLen at hmx
 have HN := hid hn
 have HJB := hid hJb
 have HY := hid hY
 have HROW := hid hrow
 clear hn hJb hY hrow hBx
 refine callsIn_of_wp Tryz.func108 rfl trivial ?_ rfl
 simp only [Tryz.ntmps108, List.size_toArray, List.length_cons, List.length_nil, Nat.reduceAdd, Nat.reduceSub, Array.replicate_succ, Array.replicate_zero, List.push_toArray, List.append_toArray, List.nil_append, List.cons_append]
 gi_wp2_with gi_in
 gi_loopw [7] (fun t7 wr => ∃ k : Nat, t7 = .int .i64 (k : Nat) ∧ k ≤ n ∧ J (xs.take k) wr) (fun t7 _ => n - (intOf t7).toNat)
 case atStart => exact ⟨0, rfl, Nat.zero_le _, h0⟩
 case round =>
  obtain ⟨k, rfl, hk, hJk⟩ := hrel
  by_cases hlk : k < n
  ·have hlk' : (k : Int) < (n : Int) := by omega
   have hkl : k < xs.length := by rw [HN.out]; exact hlk
   have hb := HJB.out _ _ hJk
   rcases HROW.out with h1 | ⟨b, o, ha, hbl, hc⟩
   ·rw [h1] at hkl; simp at hkl
   subst ha
   have d0 := (hb.cell (p := ⟨b, o + k, none⟩) hbl).trans (hc k hkl)
   have hbr : b < wr.heap.size := Nat.lt_of_lt_of_le hbl hb.size
   have htk : xs.take (k + 1) = xs.take k ++ [xs[k]?.getD 0] := by rw [List.take_add_one, List.getElem?_eq_getElem hkl]; rfl
   have HTK := hid htk
   obtain ⟨fn, tmps, assign, body, hy, hR⟩ := HY.out (xs.take k) (xs[k]?.getD 0) wr hJk (by rw [List.length_take]; omega)
   clear htk hc hkl hb
   generalize xs[k]?.getD 0 = x at *
   unfold encZ at hy
   gi_wp2
   refine hR.mono ?_
   rintro e W3 ⟨rfl, hJ3, hk3⟩
   have HJ3 : J (xs.take (k + 1)) W3 := by rw [HTK.out]; exact hJ3
   gi_wp2
   go_roundw
   case rel => exact ⟨k + 1, by go_num, by omega, HJ3⟩
   case measure => simp [intOf]; omega
  ·obtain rfl : k = n := by omega
   have hge : ¬ (k : Int) < (k : Int) := by omega
   have hall : xs.take k = xs := by rw [← HN.out]; exact List.take_length
   rw [hall] at hJk
   gi_wp2
   go_end0
   exact ⟨⟨_, rfl⟩, hJk⟩
/-- What AppendSeq keeps between two rounds. -/
abbrev ApV (w : World) (Bx Bs l D : Nat) (fn : FuncId) : List Int → World → Prop := AnyZI.ApAt sortedI_ren w fn (.func (.func 108) #[] #[.pointer (some ⟨Bx, 0, none⟩)]) Bs l D
set_option maxRecDepth 100000 in
set_option maxHeartbeats 4000000 in
/-- AppendSeq over the numbers of a row. -/
theorem appendV_in (m Bx c n : Nat) (a : Option Addr) (xs : List Int) (w : World) (hm : 2 ≤ m) (hn : xs.length = n) (hn7 : n ≤ 1000000) (hBx : w.cell? ⟨Bx, 0, none⟩ = some (.slice a n c)) (hlt : Bx < w.heap.size) (hx : NAt w a xs) :
  CallsIn Fence.wide m Tryz.prog 129 #[.slice none 0 0, .func (.func 108) #[] #[.pointer (some ⟨Bx, 0, none⟩)]] w fun e w' => ∃ v, e = .returned v ∧ w'.ownsRow w.heap.size 2 1 v xs.length (xs.map encZ) ∧ (v = .slice none 0 0 ↔ xs = []) ∧ Below w.heap.size w w' := by
 have h1 : 1 ≤ m := by omega
 have eg := enters_of Tryz.func108 (by kernel_rfl) rfl
 have hne : (50 : TypeId) ≠ 2 := by decide
 refine callsIn_of_wp_marks Tryz.func129 rfl trivial ?_ rfl
 simp only [Tryz.ntmps129, List.size_toArray, List.length_cons, List.length_nil, Nat.reduceAdd, Nat.reduceSub, Array.replicate_succ, Array.replicate_zero, List.push_toArray, List.append_toArray, List.nil_append, List.cons_append]
 gi_wp2
 refine wpIn_rangeFunc ?_
 intro fn hfn
 obtain ⟨W0, hW0⟩ : ∃ W0, w.alloc (.cells #[.slice none 0 0] 50) = W0 := ⟨_, rfl⟩
 have hs0 : W0.heap.size = w.heap.size + 1 := by rw [← hW0]; simp
 have hv0 : W0.heap[w.heap.size]? = some (.cells #[.slice none 0 0] 50 (0, 0)) := by rw [← hW0]; exact World.alloc_heap_new w _
 have hb0 : Below w.heap.size w W0 := by rw [← hW0]; exact (Below.refl _ w).alloc (Nat.le_refl _) _
 rw [hW0]
 obtain ⟨rec, hrec⟩ : ∃ r, r = AnyZI.apRec sortedI_ren fn (.func (.func 108) #[] #[.pointer (some ⟨Bx, 0, none⟩)]) w.heap.size W0.heap.size .ready none := ⟨_, rfl⟩
 obtain ⟨W1, hW1⟩ : ∃ W1, (W0.alloc (.deferred (some []))).alloc (.loop rec) = W1 := ⟨_, rfl⟩
 have hold : ∀ k, k < W0.heap.size → W1.heap[k]? = W0.heap[k]? := fun k hk => by
  rw [← hW1]; exact (Below.heap_alloc _ _ k (by simp; omega)).trans (Below.heap_alloc _ _ k hk)
 have hb1 : Below w.heap.size w W1 := by rw [← hW1]; exact (hb0.alloc hb0.size _).alloc (by have := hb0.size; simp; omega) _
 have hs1 : W1.heap.size = W0.heap.size + 2 := by rw [← hW1]; simp
 have hM : ApV w Bx w.heap.size (W0.heap.size + 1) W0.heap.size fn [] W1 :=
  ⟨⟨_, (hold w.heap.size (by omega)).trans hv0, ⟨rfl, .inl ⟨rfl, rfl⟩⟩, by simp⟩,
   by rw [← hW1, ← hrec]; have := World.alloc_heap_new (W0.alloc (.deferred (some []))) (.loop rec); rwa [World.size_alloc] at this,
   by rw [← hW1]; exact (Below.heap_alloc _ _ _ (by simp)).trans (World.alloc_heap_new W0 _), hb1⟩
 refine ⟨W0.heap.size + 1, [{ target := .collected W0.heap.size, args := #[] }], W1, { target := .fn (.func 108) #[.pointer (some ⟨Bx, 0, none⟩)], args := #[.func (.yield (W0.heap.size + 1)) #[] #[]] }, W1, 108,
  #[.func (.yield (W0.heap.size + 1)) #[] #[]] ++ #[.pointer (some ⟨Bx, 0, none⟩)], W1, ?_, ?_, ?_, ?_, fun _ => h1, ?_⟩
 ·rw [← hW1, hrec]; exact run_enterLoop_outer _ _ _ _ _
 ·simp [resolve, go_sem]
 ·intro f' hf'; simp [Target.leads] at hf'; subst hf'; exact trivial
 ·simp [invoke, go_sem, eg]
 ·have hV := values1_in (m - 1) (W0.heap.size + 1) Bx c n a xs (ApV w Bx w.heap.size (W0.heap.size + 1) W0.heap.size fn) w W1 hn (by omega) hBx hlt hx (fun _ _ h => h.below)
   (fun pre x W hJ hl => AnyZI.apYield { sortedI with } Fence.wide (m - 1 - 1) w fn hfn _ w.heap.size (W0.heap.size + 1) W0.heap.size (by omega) (by omega) (by omega) (Nat.le_refl _) (by omega) n (by unfold maxLen; omega) (by omega) pre x W hJ hl) hM
  refine hV.mono ?_
  rintro e W2 ⟨⟨v0, rfl⟩, h2⟩
  obtain ⟨v, hv, hrow, hnil⟩ := h2.box
  have hend := run_endLoop (P := Tryz.prog) h2.L (by simp [AnyZI.apRec])
  obtain ⟨W3, hW3⟩ : ∃ W3, W2.putObj (W0.heap.size + 1) (.loop { AnyZI.apRec sortedI_ren fn (.func (.func 108) #[] #[.pointer (some ⟨Bx, 0, none⟩)]) w.heap.size W0.heap.size .ready none with state := .exhausted }) = W3 := ⟨_, rfl⟩
  rw [hW3] at hend
  have hg3 : W2.grownBy W3 (some (W0.heap.size + 1)) := by rw [← hW3]; exact grownBy_putObj_a _ _ _
  have hv3 : W3.heap[w.heap.size]? = some (.cells #[v] 50 (0, 0)) := by rw [← hW3]; exact (World.putObj_heap_other (by omega)).trans hv
  have hK3 : W3.heap[W0.heap.size]? = some (.deferred (some [])) := by rw [← hW3]; exact (World.putObj_heap_other (by omega)).trans h2.K
  have hrow3 := hrow.kept hg3 (ownsRow_ne_a hrow h2.L (fun cur e => by cases e))
  have hb3 : Below w.heap.size w W3 := h2.below.grown hg3 h2.below.size (fun k e => by cases e; omega)
  obtain ⟨hc3, hf3⟩ := cell_of_box_a hv3
  clear hW3
  refine ⟨none, W3, hend, ?_⟩
  gi_wp2
  rw [← hs0]
  refine ⟨by simp, .inl ⟨_, _, rfl, run_takeDeferred hK3, ?_⟩⟩
  exact ⟨_, results_tmp rfl _ _ _, v, rfl, hrow3.kept (grownBy_putObj_a _ _ _) (ownsRow_ne_a hrow3 hK3 (fun cur e => by cases e)), hnil, hb3.grown (grownBy_putObj_a _ _ _) hb3.size (fun k e => by cases e; omega)⟩
set_option maxRecDepth 100000 in
set_option maxHeartbeats 2000000 in
theorem collectV_in (m Bx c n : Nat) (a : Option Addr) (xs : List Int) (w : World) (hm : 3 ≤ m) (hn : xs.length = n) (hn7 : n ≤ 1000000) (hBx : w.cell? ⟨Bx, 0, none⟩ = some (.slice a n c)) (hlt : Bx < w.heap.size) (hx : NAt w a xs) :
  CallsIn Fence.wide m Tryz.prog 84 #[.func (.func 108) #[] #[.pointer (some ⟨Bx, 0, none⟩)]] w fun e w' => ∃ v, e = .returned v ∧ w'.ownsRow w.heap.size 2 1 v xs.length (xs.map encZ) ∧ (v = .slice none 0 0 ↔ xs = []) ∧ Below w.heap.size w w' := by
 have h1 : 1 ≤ m := by omega
 have hA := appendV_in (m - 1) Bx c n a xs w (by omega) hn hn7 hBx hlt hx
 have hfA : Fence.wide.fn 129 := trivial
 clear hBx hx
 refine callsIn_of_wp Tryz.func84 rfl trivial ?_ rfl
 simp only [Tryz.ntmps84, List.size_toArray, List.length_cons, List.length_nil, Nat.reduceAdd, Nat.reduceSub, Array.replicate_succ, Array.replicate_zero, List.push_toArray, List.append_toArray, List.nil_append, List.cons_append]
 gi_wp2_with (gi_at_call 129; refine hA.mono ?_; rintro e w' ⟨v, rfl, hrow, hnil, hb⟩)
 go_ret
 exact ⟨v, rfl, hrow, hnil, hb⟩
set_option maxRecDepth 100000 in
set_option maxHeartbeats 2000000 in
theorem sortedV_in (m Bx c n : Nat) (a : Option Addr) (xs : List Int) (w : World) (hm : 4 ≤ m) (hn : xs.length = n) (hn7 : n ≤ 1000000) (hBx : w.cell? ⟨Bx, 0, none⟩ = some (.slice a n c)) (hlt : Bx < w.heap.size) (hx : NAt w a xs) :
  CallsIn Fence.wide m Tryz.prog 48 #[.func (.func 108) #[] #[.pointer (some ⟨Bx, 0, none⟩)]] w fun e w' => ∃ v, e = .returned v ∧ w'.ownsRow w.heap.size 2 1 v xs.length ((xs.mergeSort (fun x y => decide (x ≤ y))).map encZ) ∧ Below w.heap.size w w' := by
 have h1 : 1 ≤ m := by omega
 have hA := collectV_in (m - 1) Bx c n a xs w (by omega) hn hn7 hBx hlt hx
 have hfA : Fence.wide.fn 84 := trivial
 have hfS : Fence.wide.fn 85 := trivial
 have hsort := U.sortsI (m - 1)
 clear hBx hx
 refine callsIn_of_wp Tryz.func48 rfl trivial ?_ rfl
 simp only [Tryz.ntmps48, List.size_toArray, List.length_cons, List.length_nil, Nat.reduceAdd, Nat.reduceSub, Array.replicate_succ, Array.replicate_zero, List.push_toArray, List.append_toArray, List.nil_append, List.cons_append]
 gi_wp2_with (gi_at_call 84; refine hA.mono ?_; rintro e W ⟨v, rfl, hrow, hnil, hb⟩)
 rcases hrow.2 with ⟨rfl, hz⟩ | ⟨gb, cap, cur, rfl, hbase, hgb, r1, r2, r3, r4⟩
 ·have hss : xs = [] := List.eq_nil_of_length_eq_zero hz
  subst hss
  have hS := hsort.2 none 0 W
  change CallsIn _ _ Tryz.prog 85 _ _ _ at hS
  gi_wp2_with (gi_at_call 85; refine hS.mono ?_; rintro e w' ⟨rfl, rfl⟩)
  go_ret
  exact ⟨.slice none 0 0, rfl, by simpa using hrow, hb⟩
 ·have hH : Holds encZ W gb 0 xs.toArray := holds_of_block_i hgb (by simpa using r4)
  have hgl : gb < W.heap.size := (Array.getElem?_eq_some_iff.1 hgb).1
  have hsz : xs.length < 4611686018427387904 := by omega
  have hS := hsort.1 gb 0 cap xs W hH hgl hsz
  change CallsIn _ _ Tryz.prog 85 _ _ _ at hS
  gi_wp2_with (gi_at_call 85; refine hS.mono ?_; rintro e w' ⟨rfl, nn, os, rfl⟩)
  go_ret
  have hO := ownsRow_sorted_i (n := nn) (os := os) (ss := xs) (ts := xs.mergeSort fun x y => decide (x ≤ y)) (List.length_mergeSort _) hbase hgb r1 r2 r3
  rw [hn] at hO ⊢
  exact ⟨_, rfl, hO, hb.grown (grownBy_sorted_i _) hb.size (fun j hj => by cases hj; exact hbase)⟩
/-- slices.Sorted(slices.Values(order)), behind the iterator's making. -/
theorem sortedV_any (Bx c n : Nat) (a : Option Addr) (xs : List Int) (w : World) (hn : xs.length = n) (hn7 : n ≤ 1000000) (hBx : w.cell? ⟨Bx, 0, none⟩ = some (.slice a n c)) (hlt : Bx < w.heap.size) (hx : NAt w a xs) :
  Calls Tryz.prog 48 #[.func (.func 108) #[] #[.pointer (some ⟨Bx, 0, none⟩)]] w fun e w' => ∃ a' c', e = .returned (.slice a' n c') ∧ NAt w' a' (xs.mergeSort (fun x y => decide (x ≤ y))) ∧ Below w.heap.size w w' := by
 refine (callsIn_wide (n := 6)).1 ((sortedV_in 6 Bx c n a xs w (by omega) hn hn7 hBx hlt hx).mono ?_)
 rintro e w' ⟨v, rfl, hrow, hb⟩
 have hv : ∃ va vc, v = .slice va n vc := by
  rcases hrow.2 with ⟨rfl, h0⟩ | ⟨g, cap, cur, rfl, _⟩
  ·exact ⟨none, 0, by rw [show n = 0 by omega]⟩
  ·exact ⟨_, _, by rw [hn]⟩
 obtain ⟨va, vc, rfl⟩ := hv
 rw [hn] at hrow
 exact ⟨va, vc, rfl, own_nat (by rw [List.length_mergeSort, hn]) hrow (by unfold maxLen; omega), hb⟩
theorem values_any (a : Option Addr) (n c : Nat) (w : World) :
  Calls Tryz.prog 61 #[.slice a n c] w fun e w' => e = .returned (.func (.func 108) #[] #[.pointer (some ⟨w.heap.size, 0, none⟩)]) ∧ w' = w.alloc (.cells #[.slice a n c] 50) := by
 go_enter Tryz.func61, Tryz.ntmps61
 go_wp2
 go_ret
 exact ⟨rfl, rfl⟩
end Go.Proofs.YtekmadgacepdfaaGreat.T
namespace Go.Proofs.YtekmadgacepdfaaGreat.T
set_option linter.unusedVariables false
open Go.RowKit Fl Go.Shelf
set_option linter.unusedSimpArgs false

/-- Is the sorted order just the numbers? -/
def offV (all : List Int) (d : DoneV) : Bool := !decide (all[(d.num - 1).toNat]?.getD 0 = d.num)
theorem sorted_perm {n : Nat} {order : List Int} (hl : order.length = n) : ((List.range n).all fun i => decide ((order.mergeSort (fun x y => decide (x ≤ y)))[i]?.getD 0 = (i : Int) + 1)) = decide (order.Perm (upN n)) := by
 rw [Bool.eq_iff_iff, List.all_eq_true, decide_eq_true_eq]
 have hp := List.mergeSort_perm order (fun x y => decide (x ≤ y))
 have hln : (order.mergeSort (fun x y => decide (x ≤ y))).length = n := by rw [List.length_mergeSort, hl]
 constructor
 ·intro H
  have : order.mergeSort (fun x y => decide (x ≤ y)) = upN n := by
   refine List.ext_getElem? fun i => ?_
   by_cases hi : i < n
   ·have := H i (List.mem_range.2 hi)
    rw [decide_eq_true_eq] at this
    rw [List.getElem?_eq_getElem (by omega)] at this ⊢
    unfold upN
    rw [List.getElem?_map, List.getElem?_range hi]
    simpa using this
   ·rw [List.getElem?_eq_none_iff.2 (by omega), List.getElem?_eq_none_iff.2 (by rw [upN_len]; omega)]
  rw [← this]; exact hp.symm
 ·intro H i hi
  have hs : (order.mergeSort (fun x y => decide (x ≤ y))).Pairwise fun x y => x ≤ y := by
   have := List.pairwise_mergeSort (le := fun (x y : Int) => decide (x ≤ y)) (fun a b c => by simp; omega) (fun a b => by simp; omega) order
   exact this.imp fun h => by simpa using h
  have hnd : (order.mergeSort (fun x y => decide (x ≤ y))).Nodup := (hp.trans H).nodup_iff.2 (rise_nodup (upN_rise n))
  have hr : (order.mergeSort (fun x y => decide (x ≤ y))).Pairwise (· < ·) := (List.Pairwise.and hs hnd).imp fun h => by omega
  have : order.mergeSort (fun x y => decide (x ≤ y)) = upN n := rise_eq hr (upN_rise n) fun x => (hp.trans H).mem_iff
  rw [this, decide_eq_true_eq]
  unfold upN
  rw [List.getElem?_map, List.getElem?_range (List.mem_range.1 hi)]; rfl
theorem any_off {h : List DoneV} (hr : rightV h = true) {order : List Int} (hl : order.length = h.length) : (h.any (offV (order.mergeSort (fun x y => decide (x ≤ y))))) = !permOk h order := by
 have h1 : permOk h order = decide (order.Perm (upN h.length)) := by
  rw [Bool.eq_iff_iff, decide_eq_true_eq]
  exact ⟨fun h1 => perm_of_ok hr hl h1, fun h1 => (ok_of_perm hr h1).2⟩
 rw [h1, ← sorted_perm hl]
 rw [Bool.eq_iff_iff, List.any_eq_true, Bool.not_eq_true', List.all_eq_false]
 constructor
 ·rintro ⟨d, hd, ho⟩
  obtain ⟨i, hi, rfl⟩ := List.mem_iff_getElem.1 hd
  have hn := (right_num hr (List.getElem?_eq_getElem hi)).1
  refine ⟨i, List.mem_range.2 hi, ?_⟩
  unfold offV at ho
  rw [hn, show ((i : Int) + 1 - 1).toNat = i by omega] at ho
  simpa using ho
 ·rintro ⟨i, hi, ho⟩
  have hil := List.mem_range.1 hi
  have hn := (right_num hr (List.getElem?_eq_getElem hil)).1
  refine ⟨h[i], List.getElem_mem hil, ?_⟩
  unfold offV
  rw [hn, show ((i : Int) + 1 - 1).toNat = i by omega]
  simpa using ho
theorem reads1_any (x : DoneV) (Bx c n : Nat) (al : Option Addr) (all : List Int) (w : World) (hn : all.length = n) (hm : n ≤ 64) (hx1 : 1 ≤ x.num ∧ x.num ≤ n) (hBx : w.cell? ⟨Bx, 0, none⟩ = some (.slice al n c)) (hlt : Bx < w.heap.size) (ha : NAt w al all) :
  Calls Tryz.prog 62 #[.agg #[.int .i64 x.num, .int .i64 x.s.s0, .int .i64 x.s.s1, .int .i64 x.s.s2, .slice x.s.ra x.s.rs.length x.s.rc, .slice x.s.sa x.s.ss.length x.s.sc, .slice x.s.wa x.s.ws.length x.s.wc], .pointer (some ⟨Bx, 0, none⟩)] w (Ret (.bool (offV all x)) w) := by
 unfold offV
 obtain ⟨xn, s0, s1, s2, ra, rc, rs, sa, sc, ss, wa, wc, ws⟩ := x
 simp only at *
 generalize rs.length = n1 at *
 generalize ss.length = n2 at *
 generalize ws.length = n3 at *
 obtain ⟨k, rfl⟩ : ∃ k : Nat, xn = (k : Int) + 1 := ⟨(xn - 1).toNat, by omega⟩
 rw [show ((k : Int) + 1 - 1).toNat = k by omega]
 have hkn : k < n := by omega
 have hkl : k < all.length := by omega
 have hkn' : (k : Int) < (n : Int) := by omega
 have hk64 : (k : Int) ≤ 64 := by omega
 have hk0 : (k : Int) + 1 - 1 = (k : Int) := by omega
 rcases ha.row with h0 | ⟨b, o, rfl, hbl, hc⟩
 ·rw [h0] at hkl; simp at hkl
 have ck := hc k hkl
 clear hc ha hn hkl
 generalize all[k]?.getD 0 = v at *
 by_cases hv : v = (k : Int) + 1
 ·have hb : (v != (k : Int) + 1) = false := by simpa using hv
  rw [decide_eq_true hv]
  clear hv
  go_enter Tryz.func62, Tryz.ntmps62
  go_upto_region 1 with fail
  go_quiet (fail)
  go_wp2
  go_ret
  exact ⟨rfl, by exact below_auto⟩
 ·have hb : (v != (k : Int) + 1) = true := by simpa using hv
  rw [decide_eq_false hv]
  clear hv
  go_enter Tryz.func62, Tryz.ntmps62
  go_upto_region 1 with fail
  go_quiet (fail)
  go_wp2
  go_ret
  exact ⟨rfl, by exact below_auto⟩
theorem slIndexOff_any (P : DoneV → Bool) (a : Option Addr) (c B : Nat) (xs : List DoneV) (n : Nat) (w : World) (hn : xs.length = n) (h : HAt w a xs)
  (HM : ∀ (W : World) (x : DoneV), Below w.heap.size w W → x.s.At w → x ∈ xs → Calls Tryz.prog 62 #[.agg #[.int .i64 x.num, .int .i64 x.s.s0, .int .i64 x.s.s1, .int .i64 x.s.s2, .slice x.s.ra x.s.rs.length x.s.rc, .slice x.s.sa x.s.ss.length x.s.sc, .slice x.s.wa x.s.ws.length x.s.wc], .pointer (some ⟨B, 0, none⟩)] W (Ret (.bool (P x)) W)) :
  Calls Tryz.prog 101 #[.slice a n c, .func (.func 62) #[] #[.pointer (some ⟨B, 0, none⟩)]] w (Ret (.int .i64 (idxB P xs)) w) := by
 have hm := h.len
 have HX := hid h
 clear h
 by_cases h0 : xs = []
 ·subst h0
  simp only [List.length_nil] at hn
  subst hn
  have e : idxB P [] = -1 := rfl
  rw [e]
  clear e HX hm HM
  go_enter Tryz.func101, Tryz.ntmps101
  go_wp2
  go_loop [8] (fun i => i = .int .i64 0) (fun _ => 0)
  case atStart => rfl
  case round =>
   subst hrel
   go_wp2
   go_ret
   exact ⟨rfl, Below.refl _ _⟩
 ·have HN := hid hn
  rw [hn] at hm
  clear hn h0
  go_enter Tryz.func101, Tryz.ntmps101
  go_wp2
  go_loopw [8] (fun i wr => ∃ k : Nat, k ≤ n ∧ i = .int .i64 k ∧ Hid (∀ j : Nat, j < k → ∀ y, xs[j]? = some y → P y = false) ∧ Below w.heap.size w wr) (fun i _ => n - (intOf i).toNat)
  case atStart => exact ⟨0, Nat.zero_le _, rfl, hid fun j hj => absurd hj (Nat.not_lt_zero _), Below.refl _ _⟩
  case round =>
   obtain ⟨k, hk, rfl, HR, hbw⟩ := hrel
   by_cases hlt : k < n
   ·have hkl : k < xs.length := by rw [HN.out]; exact hlt
    have hlt' : (k : Int) < (n : Int) := by omega
    have hsz := hbw.size
    have hkx : Hid (xs[k]? = some (xs[k]?.getD default)) := hid (by rw [List.getElem?_eq_getElem hkl]; rfl)
    rcases (HX.out.below hbw).row with h0 | ⟨b, o, ha, hbl, hc⟩
    ·rw [h0] at hkl; simp at hkl
    subst ha
    have hc := hc k hkl
    have hs := HX.out.sub k hkl
    have hmem : xs[k]?.getD default ∈ xs := List.mem_of_getElem? hkx.out
    have H := HM wr _ hbw hs hmem
    clear hs hmem hkl
    generalize xs[k]?.getD default = x at *
    have c0 : wr.cell? ⟨b, o + k * 7, none⟩ = some (.int .i64 x.num) := hc 0 _ rfl
    have c1 := hc 1 _ rfl
    have c2 := hc 2 _ rfl
    have c3 := hc 3 _ rfl
    have c4 := hc 4 _ rfl
    have c5 := hc 5 _ rfl
    have c6 := hc 6 _ rfl
    clear hc
    cases hp : P x
    ·rw [hp] at H
     have HP := hid hp
     clear hp
     go_wp2_with (go_at_call 62; (with_reducible refine (H).mono ?_); rintro e w1 ⟨rfl, hb1⟩; obtain ⟨hc1, hf1⟩ := bcell hb1; (try simp only [World.heap_drewN, World.cell?_drewN, World.frozen?_drewN] at hc1 hf1); have hz1 := hb1.size; (try simp at hz1); (try have hy1_0 : w.heap.size < w1.heap.size := by omega); (try have hy1_1 : w.heap.size + 1 < w1.heap.size := by omega); (try have hx1_0 : w.heap.size ≤ w1.heap.size := by omega); (try have hx1_1 : w.heap.size + 1 ≤ w1.heap.size := by omega))
     go_roundw
     case rel => exact ⟨k + 1, by omega, by go_num, hid fun j hj y hy => by
       by_cases h : j < k
       ·exact HR.out j h y hy
       ·obtain rfl : j = k := by omega
        rw [hkx.out] at hy; cases hy; exact HP.out, by exact below_auto⟩
     case measure => simp [intOf]; omega
    ·rw [hp] at H
     have HP := hid hp
     clear hp
     go_wp2_with (go_at_call 62; (with_reducible refine (H).mono ?_); rintro e w1 ⟨rfl, hb1⟩; obtain ⟨hc1, hf1⟩ := bcell hb1; (try simp only [World.heap_drewN, World.cell?_drewN, World.frozen?_drewN] at hc1 hf1); have hz1 := hb1.size; (try simp at hz1); (try have hy1_0 : w.heap.size < w1.heap.size := by omega); (try have hy1_1 : w.heap.size + 1 < w1.heap.size := by omega); (try have hx1_0 : w.heap.size ≤ w1.heap.size := by omega); (try have hx1_1 : w.heap.size + 1 ≤ w1.heap.size := by omega))
     go_ret
     exact ⟨ret_int (by rw [idxB_some (p := P) hkx.out HP.out HR.out]), by exact below_auto⟩
   ·obtain rfl : k = n := by omega
    go_wp2
    go_ret
    refine ⟨ret_int ?_, by exact below_auto⟩
    rw [idxB_none]
    intro i y hy
    refine HR.out i ?_ y hy
    have := (List.getElem?_eq_some_iff.1 hy).1
    have := HN.out
    omega
theorem slOff_any (P : DoneV → Bool) (a : Option Addr) (c B : Nat) (xs : List DoneV) (n : Nat) (v : Bool) (w : World) (hn : xs.length = n) (h : HAt w a xs)
  (HM : ∀ (W : World) (x : DoneV), Below w.heap.size w W → x.s.At w → x ∈ xs → Calls Tryz.prog 62 #[.agg #[.int .i64 x.num, .int .i64 x.s.s0, .int .i64 x.s.s1, .int .i64 x.s.s2, .slice x.s.ra x.s.rs.length x.s.rc, .slice x.s.sa x.s.ss.length x.s.sc, .slice x.s.wa x.s.ws.length x.s.wc], .pointer (some ⟨B, 0, none⟩)] W (Ret (.bool (P x)) W)) (hv : xs.any P = v) :
  Calls Tryz.prog 55 #[.slice a n c, .func (.func 62) #[] #[.pointer (some ⟨B, 0, none⟩)]] w (Ret (.bool v) w) := by
 have H := slIndexOff_any P a c B xs n w hn h HM
 rw [← idxB_any] at hv
 generalize idxB P xs = r at *
 subst hv
 clear hn h HM
 go_enter Tryz.func55, Tryz.ntmps55
 go_wp2_with (go_at_call 101; (with_reducible refine (H).mono ?_); rintro e w1 ⟨rfl, hb1⟩; obtain ⟨hc1, hf1⟩ := bcell hb1; (try simp only [World.heap_drewN, World.cell?_drewN, World.frozen?_drewN] at hc1 hf1); have hz1 := hb1.size; (try simp at hz1); (try have hy1_0 : w.heap.size < w1.heap.size := by omega); (try have hy1_1 : w.heap.size + 1 < w1.heap.size := by omega); (try have hx1_0 : w.heap.size ≤ w1.heap.size := by omega); (try have hx1_1 : w.heap.size + 1 ≤ w1.heap.size := by omega))
 go_ret
 exact ⟨rfl, by exact below_auto⟩
end Go.Proofs.YtekmadgacepdfaaGreat.T
namespace Go.Proofs.YtekmadgacepdfaaGreat.T
set_option linter.unusedVariables false
open Go.RowKit Fl Go.Shelf
set_option linter.unusedSimpArgs false

theorem last_snoc {h : List DoneV} {k : Nat} {order : List Int} {p : Nat} {m : Int} {t : DoneV} (hp : order[p]? = some m) (ht : atN h m = some t) : lastV h k (order.take (p + 1)) = if t.s.writes k = true then m else lastV h k (order.take p) := by
 unfold lastV lastOf
 rw [List.take_add_one, hp, List.filter_append]
 have hw : wrN h k m = t.s.writes k := by unfold wrN; rw [ht]
 by_cases hc : t.s.writes k = true
 ·rw [if_pos hc]
  have : (some m).toList.filter (wrN h k) = [m] := by simp [hw, hc]
  rw [this, List.getLast?_concat]; rfl
 ·rw [if_neg hc]
  have : (some m).toList.filter (wrN h k) = [] := by simp [hw, hc]
  rw [this, List.append_nil]
theorem rdOk_eq {h : List DoneV} {k : Nat} {order : List Int} {p : Nat} {m : Int} {t : DoneV} (hp : order[p]? = some m) (ht : atN h m = some t) : rdOk h order k p = (!t.s.reads k || decide (lastV h k (order.take p) = versionV h k t.s.s2)) := by
 unfold rdOk
 rw [hp]
 simp only [ht]
set_option maxHeartbeats 2000000 in
set_option maxRecDepth 100000 in
theorem reads_any (a ao : Option Addr) (c co n no : Nat) (h : List DoneV) (order : List Int) (v : Bool) (w : World) (hn : h.length = n) (hcap : n ≤ c) (hh : HAt w a h) (hno : order.length = no) (hn7 : no ≤ 1000000) (ho : NAt w ao order) (hv : readsV h order = v) :
  Calls Tryz.prog 35 #[.slice a n c, .slice ao no co] w (Ret (.bool v) w) := by
 have HX := hid hh
 have HN := hid hn
 have HNO := hid hno
 have HO := hid ho
 have HV := hid hv
 have HRT := hid fun W (hb : Below w.heap.size w W) => right_any a c n h _ W hn hcap (hh.below hb) rfl
 have hbx : Below w.heap.size w (w.alloc (.cells #[.slice ao no co] 50)) := Below.alloc1 (Nat.le_refl _) (Below.refl _ _) _
 have HSO := hid (sortedV_any w.heap.size co no ao order (w.alloc (.cells #[.slice ao no co] 50)) hno hn7 (by simp [go_sem]) (by simp) (ho.below hbx))
 have HLT := hid hh.keys_lt
 have hm := hh.len
 rw [hn] at hm
 clear hh hn hno ho hv
 go_enter Tryz.func35, Tryz.ntmps35
 go_upto_region 1 with fail
 go_wp2_with (go_at_call 61; refine (values_any ao no co w).mono ?_; rintro e w' ⟨rfl, rfl⟩)
 refine HSO.out.mono ?_
 rintro e w1 ⟨aa, ca, rfl, hAll, hb1⟩
 have hbw1 := hbx.trans (hb1.mono (by simp))
 obtain ⟨all, hall⟩ : ∃ all, all = order.mergeSort (fun x y => decide (x ≤ y)) := ⟨_, rfl⟩
 rw [← hall] at hAll
 have HALL := hid hall
 have hlall : all.length = no := by rw [hall, List.length_mergeSort, HNO.out]
 have HLA := hid hlall
 have HAL := hid hAll
 clear HSO hAll hb1 hbx hall hlall
 have hbz : Below w1.heap.size w1 (w1.alloc (.cells #[.slice aa no ca] 50)) := Below.alloc1 (Nat.le_refl _) (Below.refl _ _) _
 have hbw2 := hbw1.trans (hbz.mono hbw1.size)
 have hbc : (w1.alloc (.cells #[.slice aa no ca] 50)).cell? ⟨w1.heap.size, 0, none⟩ = some (.slice aa no ca) := by simp [go_sem]
 have hbs : w1.heap.size < (w1.alloc (.cells #[.slice aa no ca] 50)).heap.size := by simp
 have HAL2 := hid (HAL.out.below hbz)
 go_upto_region 2 with fail
 generalize w1.alloc (.cells #[.slice aa no ca] 50) = w2 at *
 generalize w1.heap.size = Bx at *
 clear hbw1 hbz HAL
 have HRW := HRT.out w2 hbw2
 have hsz2 := hbw2.size
 have hvd : v = ((rightV h && (decide (order.length = h.length) && permOk h order)) && (keysV h).all fun k => (List.range order.length).all fun i => rdOk h order k i) := HV.out.symm
 have HVD := hid hvd
 clear hvd
 by_cases hr : rightV h = true
 rotate_left
 ·have hrf : rightV h = false := by simpa using hr
  rw [hrf] at HRW
  have HV0 : Hid (v = false) := hid (by rw [HVD.out, hrf]; rfl)
  clear hr hrf hbc HAL2
  go_wp2_with (go_at_call 29; (with_reducible refine (HRW).mono ?_); rintro e w3 ⟨rfl, hb3⟩; obtain ⟨hc3, hf3⟩ := bcell hb3; (try simp only [World.heap_drewN, World.cell?_drewN, World.frozen?_drewN] at hc3 hf3); have hz3 := hb3.size; (try simp at hz3); (try have hy3_0 : w.heap.size < w3.heap.size := by omega); (try have hy3_1 : w.heap.size + 1 < w3.heap.size := by omega); (try have hx3_0 : w.heap.size ≤ w3.heap.size := by omega); (try have hx3_1 : w.heap.size + 1 ≤ w3.heap.size := by omega))
  go_ret
  exact ⟨ret_bool HV0.out.symm, by exact below_auto⟩
 rw [hr] at HRW
 by_cases hlen : no = n
 rotate_left
 ·have hb : ((no : Int) != (n : Int)) = true := by simp; omega
  have HV0 : Hid (v = false) := hid (by rw [HVD.out, show decide (order.length = h.length) = false by rw [HNO.out, HN.out]; simpa using hlen]; simp)
  clear hr hlen hbc HAL2
  go_wp2_with (go_at_call 29; (with_reducible refine (HRW).mono ?_); rintro e w3 ⟨rfl, hb3⟩; obtain ⟨hc3, hf3⟩ := bcell hb3; (try simp only [World.heap_drewN, World.cell?_drewN, World.frozen?_drewN] at hc3 hf3); have hz3 := hb3.size; (try simp at hz3); (try have hy3_0 : w.heap.size < w3.heap.size := by omega); (try have hy3_1 : w.heap.size + 1 < w3.heap.size := by omega); (try have hx3_0 : w.heap.size ≤ w3.heap.size := by omega); (try have hx3_1 : w.heap.size + 1 ≤ w3.heap.size := by omega))
  go_ret
  exact ⟨ret_bool HV0.out.symm, by exact below_auto⟩
 subst hlen
 have hb : ((no : Int) != (no : Int)) = false := by simp
 have hn64 : no ≤ 64 := by have := right_len hr; rw [HN.out] at this; exact this
 have HR := hid hr
 have hoff := any_off hr (order := order) (by rw [HNO.out, HN.out])
 rw [← HALL.out] at hoff
 have HCF := hid fun W (hw : Below w2.heap.size w2 W) => slOff_any (offV all) a c Bx h no (!permOk h order) W HN.out (HX.out.below (hbw2.trans (hw.mono hsz2)))
  (fun W' x hb' hx hmem => reads1_any x Bx ca no aa all W' HLA.out hn64 (by
   obtain ⟨i, hi, rfl⟩ := List.mem_iff_getElem.1 hmem
   have h1 := (right_num HR.out (List.getElem?_eq_getElem hi)).1
   have h2 := HN.out
   omega) (((hw.trans (hb'.mono hw.size)).cell (p := ⟨Bx, 0, none⟩) hbs).trans hbc) (Nat.lt_of_lt_of_le hbs (Nat.le_trans hw.size hb'.size)) ((HAL2.out.below hw).below hb')) hoff
 clear hoff hr
 cases hpo : permOk h order
 ·have HV0 : Hid (v = false) := hid (by rw [HVD.out, hpo]; simp)
  have HCF0 := HCF.out
  rw [hpo] at HCF0
  clear hpo
  go_wp2_with (first | (go_at_call 29; (with_reducible refine (HRW).mono ?_); rintro e w3 ⟨rfl, hb3⟩; obtain ⟨hc3, hf3⟩ := bcell hb3; (try simp only [World.heap_drewN, World.cell?_drewN, World.frozen?_drewN] at hc3 hf3); have hz3 := hb3.size; (try simp at hz3); (try have hy3_0 : w.heap.size < w3.heap.size := by omega); (try have hy3_1 : w.heap.size + 1 < w3.heap.size := by omega); (try have hx3_0 : w.heap.size ≤ w3.heap.size := by omega); (try have hx3_1 : w.heap.size + 1 ≤ w3.heap.size := by omega)) | (go_at_call 55; (with_reducible refine (HCF0 _ (by exact below_auto)).mono ?_); rintro e w4 ⟨rfl, hb4⟩; obtain ⟨hc4, hf4⟩ := bcell hb4; (try simp only [World.heap_drewN, World.cell?_drewN, World.frozen?_drewN] at hc4 hf4); have hz4 := hb4.size; (try simp at hz4); (try have hy4_0 : w.heap.size < w4.heap.size := by omega); (try have hy4_1 : w.heap.size + 1 < w4.heap.size := by omega); (try have hx4_0 : w.heap.size ≤ w4.heap.size := by omega); (try have hx4_1 : w.heap.size + 1 ≤ w4.heap.size := by omega)))
  go_ret
  exact ⟨ret_bool HV0.out.symm, by exact below_auto⟩
 have HPERM := hid (perm_of_ok HR.out (by rw [HNO.out, HN.out]) hpo)
 have hvk : v = (keysV h).all fun k => (List.range no).all fun i => rdOk h order k i := by
  rw [HVD.out, HR.out, hpo, show decide (order.length = h.length) = true by rw [HNO.out, HN.out]; simp, HNO.out]
  simp
 have HVK := hid hvk
 have HCF0 := HCF.out
 rw [hpo] at HCF0
 clear hpo hvk HVD HCF
 go_upto_region 5 with (first | (go_at_call 29; (with_reducible refine (HRW).mono ?_); rintro e w3 ⟨rfl, hb3⟩; obtain ⟨hc3, hf3⟩ := bcell hb3; (try simp only [World.heap_drewN, World.cell?_drewN, World.frozen?_drewN] at hc3 hf3); have hz3 := hb3.size; (try simp at hz3); (try have hy3_0 : w.heap.size < w3.heap.size := by omega); (try have hy3_1 : w.heap.size + 1 < w3.heap.size := by omega); (try have hx3_0 : w.heap.size ≤ w3.heap.size := by omega); (try have hx3_1 : w.heap.size + 1 ≤ w3.heap.size := by omega)) | (go_at_call 55; (with_reducible refine (HCF0 _ (by exact below_auto)).mono ?_); rintro e w4 ⟨rfl, hb4⟩; obtain ⟨hc4, hf4⟩ := bcell hb4; (try simp only [World.heap_drewN, World.cell?_drewN, World.frozen?_drewN] at hc4 hf4); have hz4 := hb4.size; (try simp at hz4); (try have hy4_0 : w.heap.size < w4.heap.size := by omega); (try have hy4_1 : w.heap.size + 1 < w4.heap.size := by omega); (try have hx4_0 : w.heap.size ≤ w4.heap.size := by omega); (try have hx4_1 : w.heap.size + 1 ≤ w4.heap.size := by omega)))
 have hbw4 : Below w.heap.size w w4 := by exact below_auto
 have hsz4 := hbw4.size
 clear hb3 hc3 hf3 hz3 hb4 hc4 hf4 hz4 hbc HAL2 HCF0 HRW
 go_loopw [34] (fun t34 wr => ∃ i : Nat, t34 = .int .i64 (i : Nat) ∧ i ≤ no ∧ Hid (∀ k ∈ keyT h i, ∀ p, p < no → rdOk h order k p = true) ∧ Below w.heap.size w wr) (fun t34 _ => no - (intOf t34).toNat)
 case atStart => exact ⟨0, rfl, Nat.zero_le _, hid (fun k hk => by simp [keyT] at hk), hbw4⟩
 case round =>
  obtain ⟨i, rfl, hi, HI, hbi⟩ := hrel
  by_cases hil : i < no
  ·have hil' : (i : Int) < (no : Int) := by omega
   have hkl : i < h.length := by rw [HN.out]; exact hil
   have hkx : Hid (h[i]? = some (h[i]?.getD default)) := hid (by rw [List.getElem?_eq_getElem hkl]; rfl)
   rcases (HX.out.below hbi).row with h0 | ⟨b, o, ha, hbl, hc⟩
   ·rw [h0] at hkl; simp at hkl
   subst ha
   have hc := hc i hkl
   have HS := hid (HX.out.sub i hkl)
   clear hkl
   generalize h[i]?.getD default = x at *
   have c0 : wr.cell? ⟨b, o + i * 7, none⟩ = some (.int .i64 x.num) := hc 0 _ rfl
   have c1 := hc 1 _ rfl
   have c2 := hc 2 _ rfl
   have c3 := hc 3 _ rfl
   have c4 := hc 4 _ rfl
   have c5 := hc 5 _ rfl
   have c6 := hc 6 _ rfl
   clear hc
   have hszi := hbi.size
   have hml := HS.out.w.len
   unfold maxLen at hml
   obtain ⟨m, hmm⟩ : ∃ m, m = x.s.ws.length := ⟨_, rfl⟩
   obtain ⟨xa, hxa⟩ : ∃ xa, xa = x.s.wa := ⟨_, rfl⟩
   have HFW : Hid (FAt w xa x.s.ws) := hid (by rw [hxa]; exact HS.out.w)
   rw [← hmm] at hml c6
   rw [← hxa] at c6
   have HMW := hid hmm
   clear hmm hxa
   have hbz : Below w.heap.size w (wr.alloc (.cells #[.int .i64 x.num, .int .i64 x.s.s0, .int .i64 x.s.s1, .int .i64 x.s.s2, .slice x.s.ra x.s.rs.length x.s.rc, .slice x.s.sa x.s.ss.length x.s.sc, .slice xa m x.s.wc] 73)) := hbi.alloc hszi _
   go_upto_region 8 with fail
   generalize wr.alloc (.cells #[.int .i64 x.num, .int .i64 x.s.s0, .int .i64 x.s.s1, .int .i64 x.s.s2, .slice x.s.ra x.s.rs.length x.s.rc, .slice x.s.sa x.s.ss.length x.s.sc, .slice xa m x.s.wc] 73) = W5 at *
   clear c0 c1 c2 c3 c4 c5 c6 hbi hszi
   go_loopw [42] (fun t42 wx => ∃ j : Nat, t42 = .int .i64 (j : Nat) ∧ j ≤ m ∧ Hid (∀ k ∈ x.s.ws.take j, ∀ p, p < no → rdOk h order k p = true) ∧ Below w.heap.size w wx) (fun t42 _ => m - (intOf t42).toNat)
   case atStart => exact ⟨0, rfl, Nat.zero_le _, hid (fun k hk => by simp at hk), hbz⟩
   case round =>
    obtain ⟨j, rfl, hj, HJ, hbj⟩ := hrel
    clear hbz
    by_cases hjl : j < m
    ·have hjl' : (j : Int) < (m : Int) := by omega
     have hjw : j < x.s.ws.length := by rw [← HMW.out]; exact hjl
     have hky : Hid (x.s.ws[j]? = some (x.s.ws[j]?.getD 0)) := hid (fl_some hjw)
     rcases (HFW.out.below hbj).row with h0 | ⟨g, q, hag, hgl, hgc⟩
     ·rw [h0] at hjw; simp at hjw
     have hgc := hgc j hjw
     subst hag
     clear hjw
     generalize x.s.ws[j]?.getD 0 = key at *
     have HW := hid fun y W (hy : SubV.At y w) (hw : Below w.heap.size w W) => subWrites_any y key W (hy.below hw)
     have HRD := hid fun y W (hy : SubV.At y w) (hw : Below w.heap.size w W) => subReads_any y key W (hy.below hw)
     have HVE := hid fun sn W (hw : Below w.heap.size w W) => version_any (some ⟨b, o, none⟩) c no h key sn W HN.out (HX.out.below hw)
     have HKM : Hid (key ∈ keysV h) := hid (List.mem_flatMap.2 ⟨x, List.mem_of_getElem? hkx.out, List.mem_of_getElem? hky.out⟩)
     have hszj := hbj.size
     go_upto_region 12 with fail
     go_loopw [10, 48] (fun t10 t48 wx => ∃ (p : Nat), t48 = .int .i64 (p : Nat) ∧ t10 = .int .i64 (lastV h key (order.take p)) ∧ p ≤ no ∧ Hid (∀ p', p' < p → rdOk h order key p' = true) ∧ Below w.heap.size w wx) (fun _ t48 _ => no - (intOf t48).toNat)
     case atStart => exact ⟨0, rfl, rfl, Nat.zero_le _, hid (fun p hp => absurd hp (Nat.not_lt_zero _)), hbj⟩
     case round =>
      obtain ⟨p, rfl, rfl, hp, HP, hbp⟩ := hrel
      clear hbj hszj hgc hgl
      by_cases hpl : p < no
      ·have hpl' : (p : Int) < (no : Int) := by omega
       have hpo : p < order.length := by rw [HNO.out]; exact hpl
       have hsp : Hid (order[p]? = some (order[p]?.getD 0)) := hid (by rw [List.getElem?_eq_getElem hpo]; rfl)
       rcases (HO.out.below hbp).row with h0 | ⟨bo, oo, hao, hbol, hoc⟩
       ·rw [h0] at hpo; simp at hpo
       have hoc := hoc p hpo
       subst hao
       have hmU := HPERM.out.mem_iff.1 (List.mem_of_getElem? hsp.out)
       clear hpo
       generalize order[p]?.getD 0 = on at *
       obtain ⟨u1, u2⟩ := upN_mem.1 hmU
       rw [HN.out] at u2
       obtain ⟨q, rfl⟩ : ∃ q : Nat, on = (q : Int) + 1 := ⟨(on - 1).toNat, by omega⟩
       have hqn : q < no := by omega
       have hqn' : (q : Int) < (no : Int) := by omega
       have hq1 : (q : Int) + 1 - 1 = (q : Int) := by omega
       have hq64 : (q : Int) + 1 ≤ 64 := by omega
       have hql : q < h.length := by rw [HN.out]; exact hqn
       have hsq : h[q]? = some (h[q]?.getD default) := by rw [List.getElem?_eq_getElem hql]; rfl
       have hat : atN h ((q : Int) + 1) = some (h[q]?.getD default) := by unfold atN; rw [show ((q : Int) + 1 - 1).toNat = q by omega]; exact hsq
       rcases (HX.out.below hbp).row with h0 | ⟨b', o', ha, hbl', hc⟩
       ·rw [h0] at hql; simp at hql
       cases ha
       have hc := hc q hql
       have HST := hid (HX.out.sub q hql)
       clear hql hsq hmU u1 u2
       generalize h[q]?.getD default = t at *
       have HAT := hid hat
       clear hat
       have d0 : wr.cell? ⟨b, o + q * 7, none⟩ = some (.int .i64 t.num) := hc 0 _ rfl
       have d1 := hc 1 _ rfl
       have d2 := hc 2 _ rfl
       have d3 := hc 3 _ rfl
       have d4 := hc 4 _ rfl
       have d5 := hc 5 _ rfl
       have d6 := hc 6 _ rfl
       clear hc
       have hszp := hbp.size
       have HW1 := HW.out t.s
       have HR1 := HRD.out t.s
       have HV1 := HVE.out t.s.s2
       have HLS := hid (last_snoc (k := key) hsp.out HAT.out)
       have HRK := hid (rdOk_eq (k := key) hsp.out HAT.out)
       have HTS := HST.out
       obtain ⟨bw, hbw⟩ : ∃ bw, t.s.writes key = bw := ⟨_, rfl⟩
       obtain ⟨br, hbr⟩ : ∃ br, t.s.reads key = br := ⟨_, rfl⟩
       rw [hbw] at HW1
       rw [hbr] at HR1
       have HBW := hid hbw; have HBR := hid hbr
       clear hbw hbr
       obtain ⟨vv, hvv⟩ : ∃ vv, versionV h key t.s.s2 = vv := ⟨_, rfl⟩
       obtain ⟨la, hla⟩ : ∃ la, lastV h key (order.take p) = la := ⟨_, rfl⟩
       rw [hvv] at HV1
       have HVV := hid hvv
       have HLA2 := hid hla
       rw [hla]
       clear hvv hla
       have HW2 := fun W (hw : Below w.heap.size w W) => HW1 W HTS hw
       have HR2 := fun W (hw : Below w.heap.size w W) => HR1 W HTS hw
       clear HW1 HR1 HTS
       have goOn : (br = false ∨ la = vv) → Hid (∀ p', p' < p + 1 → rdOk h order key p' = true) := fun hg => hid fun p' hp' => by
        by_cases hpp : p' < p
        ·exact HP.out p' hpp
        ·obtain rfl : p' = p := by omega
         rw [HRK.out, HBR.out, HLA2.out, HVV.out]
         rcases hg with rfl | rfl
         ·rfl
         ·simp
       have nxt : Hid (lastV h key (order.take (p + 1)) = if bw = true then (q : Int) + 1 else la) := hid (by rw [HLS.out, HBW.out, HLA2.out])
       by_cases hbad : br = true ∧ la ≠ vv
       ·obtain ⟨rfl, hne⟩ := hbad
        have hneb : (la != vv) = true := by simpa using hne
        have HV0 : Hid (v = false) := hid (by
         rw [HVK.out, List.all_eq_false]
         refine ⟨key, HKM.out, ?_⟩
         rw [Bool.not_eq_true, List.all_eq_false]
         refine ⟨p, List.mem_range.2 hpl, ?_⟩
         rw [HRK.out, HBR.out, HLA2.out, HVV.out]
         simpa using hne)
        clear hne goOn nxt HW2
        go_wp2_with (first | (go_at_call 63; (with_reducible refine (HR2 _ (by exact below_auto)).mono ?_); rintro e w5 ⟨rfl, hb5⟩; obtain ⟨hc5, hf5⟩ := bcell hb5; (try simp only [World.heap_drewN, World.cell?_drewN, World.frozen?_drewN] at hc5 hf5); have hz5 := hb5.size; (try simp at hz5); (try have hy5_0 : w.heap.size < w5.heap.size := by omega); (try have hy5_1 : w.heap.size + 1 < w5.heap.size := by omega); (try have hx5_0 : w.heap.size ≤ w5.heap.size := by omega); (try have hx5_1 : w.heap.size + 1 ≤ w5.heap.size := by omega); (try have hu5_wr_0 : wr.heap.size < w5.heap.size := by omega)) | (go_at_call 64; (with_reducible refine (HV1 _ (by exact below_auto)).mono ?_); rintro e w6 ⟨rfl, hb6⟩; obtain ⟨hc6, hf6⟩ := bcell hb6; (try simp only [World.heap_drewN, World.cell?_drewN, World.frozen?_drewN] at hc6 hf6); have hz6 := hb6.size; (try simp at hz6); (try have hy6_0 : w.heap.size < w6.heap.size := by omega); (try have hy6_1 : w.heap.size + 1 < w6.heap.size := by omega); (try have hx6_0 : w.heap.size ≤ w6.heap.size := by omega); (try have hx6_1 : w.heap.size + 1 ≤ w6.heap.size := by omega); (try have hu6_wr_0 : wr.heap.size < w6.heap.size := by omega)))
        go_ret
        exact ⟨ret_bool HV0.out.symm, by exact below_auto⟩
       ·have hok : br = false ∨ (br = true ∧ la = vv) := by
         cases br
         ·exact .inl rfl
         ·exact .inr ⟨rfl, Classical.byContradiction fun hc => hbad ⟨rfl, hc⟩⟩
        have HG := goOn (by rcases hok with h1 | h1; exact .inl h1; exact .inr h1.2)
        clear goOn hbad
        rcases hok with rfl | ⟨rfl, hlv⟩
        ·cases bw
         ·have HNX : Hid (la = lastV h key (order.take (p + 1))) := hid (by rw [nxt.out]; rfl)
          clear nxt
          go_wp2_with (first | (go_at_call 63; (with_reducible refine (HR2 _ (by exact below_auto)).mono ?_); rintro e w5 ⟨rfl, hb5⟩; obtain ⟨hc5, hf5⟩ := bcell hb5; (try simp only [World.heap_drewN, World.cell?_drewN, World.frozen?_drewN] at hc5 hf5); have hz5 := hb5.size; (try simp at hz5); (try have hy5_0 : w.heap.size < w5.heap.size := by omega); (try have hy5_1 : w.heap.size + 1 < w5.heap.size := by omega); (try have hx5_0 : w.heap.size ≤ w5.heap.size := by omega); (try have hx5_1 : w.heap.size + 1 ≤ w5.heap.size := by omega); (try have hu5_wr_0 : wr.heap.size < w5.heap.size := by omega)) | (go_at_call 65; (with_reducible refine (HW2 _ (by exact below_auto)).mono ?_); rintro e w6 ⟨rfl, hb6⟩; obtain ⟨hc6, hf6⟩ := bcell hb6; (try simp only [World.heap_drewN, World.cell?_drewN, World.frozen?_drewN] at hc6 hf6); have hz6 := hb6.size; (try simp at hz6); (try have hy6_0 : w.heap.size < w6.heap.size := by omega); (try have hy6_1 : w.heap.size + 1 < w6.heap.size := by omega); (try have hx6_0 : w.heap.size ≤ w6.heap.size := by omega); (try have hx6_1 : w.heap.size + 1 ≤ w6.heap.size := by omega)))
          go_roundw
          case rel => exact ⟨p + 1, by go_num, by rw [← HNX.out], by omega, HG, by exact below_auto⟩
          case measure => simp [intOf]; omega
         ·have HNX : Hid ((q : Int) + 1 = lastV h key (order.take (p + 1))) := hid (by rw [nxt.out]; rfl)
          clear nxt
          go_wp2_with (first | (go_at_call 63; (with_reducible refine (HR2 _ (by exact below_auto)).mono ?_); rintro e w5 ⟨rfl, hb5⟩; obtain ⟨hc5, hf5⟩ := bcell hb5; (try simp only [World.heap_drewN, World.cell?_drewN, World.frozen?_drewN] at hc5 hf5); have hz5 := hb5.size; (try simp at hz5); (try have hy5_0 : w.heap.size < w5.heap.size := by omega); (try have hy5_1 : w.heap.size + 1 < w5.heap.size := by omega); (try have hx5_0 : w.heap.size ≤ w5.heap.size := by omega); (try have hx5_1 : w.heap.size + 1 ≤ w5.heap.size := by omega); (try have hu5_wr_0 : wr.heap.size < w5.heap.size := by omega)) | (go_at_call 65; (with_reducible refine (HW2 _ (by exact below_auto)).mono ?_); rintro e w6 ⟨rfl, hb6⟩; obtain ⟨hc6, hf6⟩ := bcell hb6; (try simp only [World.heap_drewN, World.cell?_drewN, World.frozen?_drewN] at hc6 hf6); have hz6 := hb6.size; (try simp at hz6); (try have hy6_0 : w.heap.size < w6.heap.size := by omega); (try have hy6_1 : w.heap.size + 1 < w6.heap.size := by omega); (try have hx6_0 : w.heap.size ≤ w6.heap.size := by omega); (try have hx6_1 : w.heap.size + 1 ≤ w6.heap.size := by omega)))
          go_roundw
          case rel => exact ⟨p + 1, by go_num, by rw [← HNX.out], by omega, HG, by exact below_auto⟩
          case measure => simp [intOf]; omega
        ·have hneb : (la != vv) = false := by simpa using hlv
         have HLV := hid hlv
         clear hlv
         cases bw
         ·have HNX : Hid (la = lastV h key (order.take (p + 1))) := hid (by rw [nxt.out]; rfl)
          clear nxt
          go_wp2_with (first | (go_at_call 63; (with_reducible refine (HR2 _ (by exact below_auto)).mono ?_); rintro e w5 ⟨rfl, hb5⟩; obtain ⟨hc5, hf5⟩ := bcell hb5; (try simp only [World.heap_drewN, World.cell?_drewN, World.frozen?_drewN] at hc5 hf5); have hz5 := hb5.size; (try simp at hz5); (try have hy5_0 : w.heap.size < w5.heap.size := by omega); (try have hy5_1 : w.heap.size + 1 < w5.heap.size := by omega); (try have hx5_0 : w.heap.size ≤ w5.heap.size := by omega); (try have hx5_1 : w.heap.size + 1 ≤ w5.heap.size := by omega); (try have hu5_wr_0 : wr.heap.size < w5.heap.size := by omega)) | (go_at_call 64; (with_reducible refine (HV1 _ (by exact below_auto)).mono ?_); rintro e w6 ⟨rfl, hb6⟩; obtain ⟨hc6, hf6⟩ := bcell hb6; (try simp only [World.heap_drewN, World.cell?_drewN, World.frozen?_drewN] at hc6 hf6); have hz6 := hb6.size; (try simp at hz6); (try have hy6_0 : w.heap.size < w6.heap.size := by omega); (try have hy6_1 : w.heap.size + 1 < w6.heap.size := by omega); (try have hx6_0 : w.heap.size ≤ w6.heap.size := by omega); (try have hx6_1 : w.heap.size + 1 ≤ w6.heap.size := by omega); (try have hu6_wr_0 : wr.heap.size < w6.heap.size := by omega)) | (go_at_call 65; (with_reducible refine (HW2 _ (by exact below_auto)).mono ?_); rintro e w7 ⟨rfl, hb7⟩; obtain ⟨hc7, hf7⟩ := bcell hb7; (try simp only [World.heap_drewN, World.cell?_drewN, World.frozen?_drewN] at hc7 hf7); have hz7 := hb7.size; (try simp at hz7); (try have hy7_0 : w.heap.size < w7.heap.size := by omega); (try have hy7_1 : w.heap.size + 1 < w7.heap.size := by omega); (try have hx7_0 : w.heap.size ≤ w7.heap.size := by omega); (try have hx7_1 : w.heap.size + 1 ≤ w7.heap.size := by omega)))
          go_roundw
          case rel => exact ⟨p + 1, by go_num, by rw [← HNX.out], by omega, HG, by exact below_auto⟩
          case measure => simp [intOf]; omega
         ·have HNX : Hid ((q : Int) + 1 = lastV h key (order.take (p + 1))) := hid (by rw [nxt.out]; rfl)
          clear nxt
          go_wp2_with (first | (go_at_call 63; (with_reducible refine (HR2 _ (by exact below_auto)).mono ?_); rintro e w5 ⟨rfl, hb5⟩; obtain ⟨hc5, hf5⟩ := bcell hb5; (try simp only [World.heap_drewN, World.cell?_drewN, World.frozen?_drewN] at hc5 hf5); have hz5 := hb5.size; (try simp at hz5); (try have hy5_0 : w.heap.size < w5.heap.size := by omega); (try have hy5_1 : w.heap.size + 1 < w5.heap.size := by omega); (try have hx5_0 : w.heap.size ≤ w5.heap.size := by omega); (try have hx5_1 : w.heap.size + 1 ≤ w5.heap.size := by omega); (try have hu5_wr_0 : wr.heap.size < w5.heap.size := by omega)) | (go_at_call 64; (with_reducible refine (HV1 _ (by exact below_auto)).mono ?_); rintro e w6 ⟨rfl, hb6⟩; obtain ⟨hc6, hf6⟩ := bcell hb6; (try simp only [World.heap_drewN, World.cell?_drewN, World.frozen?_drewN] at hc6 hf6); have hz6 := hb6.size; (try simp at hz6); (try have hy6_0 : w.heap.size < w6.heap.size := by omega); (try have hy6_1 : w.heap.size + 1 < w6.heap.size := by omega); (try have hx6_0 : w.heap.size ≤ w6.heap.size := by omega); (try have hx6_1 : w.heap.size + 1 ≤ w6.heap.size := by omega); (try have hu6_wr_0 : wr.heap.size < w6.heap.size := by omega)) | (go_at_call 65; (with_reducible refine (HW2 _ (by exact below_auto)).mono ?_); rintro e w7 ⟨rfl, hb7⟩; obtain ⟨hc7, hf7⟩ := bcell hb7; (try simp only [World.heap_drewN, World.cell?_drewN, World.frozen?_drewN] at hc7 hf7); have hz7 := hb7.size; (try simp at hz7); (try have hy7_0 : w.heap.size < w7.heap.size := by omega); (try have hy7_1 : w.heap.size + 1 < w7.heap.size := by omega); (try have hx7_0 : w.heap.size ≤ w7.heap.size := by omega); (try have hx7_1 : w.heap.size + 1 ≤ w7.heap.size := by omega)))
          go_roundw
          case rel => exact ⟨p + 1, by go_num, by rw [← HNX.out], by omega, HG, by exact below_auto⟩
          case measure => simp [intOf]; omega
      ·obtain rfl : p = no := by omega
       have hge : ¬ (p : Int) < (p : Int) := by omega
       have HJ2 : Hid (∀ k ∈ x.s.ws.take (j + 1), ∀ p', p' < p → rdOk h order k p' = true) := hid fun k hk p' hp' => by
        rw [List.take_add_one, hky.out] at hk
        rcases List.mem_append.1 hk with h1 | h1
        ·exact HJ.out k h1 p' hp'
        ·have : k = key := by simpa using h1
         subst this
         exact HP.out p' hp'
       go_wp2_with fail
       go_roundw
       case rel => exact ⟨j + 1, by go_num, by omega, HJ2, hbp⟩
       case measure => simp [intOf]; omega
    ·obtain rfl : j = m := by omega
     have hge : ¬ (j : Int) < (j : Int) := by omega
     have HI2 : Hid (∀ k ∈ keyT h (i + 1), ∀ p, p < no → rdOk h order k p = true) := hid fun k hk p hp => by
      rw [keyT_snoc hkx.out] at hk
      rcases List.mem_append.1 hk with h1 | h1
      ·exact HI.out k h1 p hp
      ·exact HJ.out k (by rw [HMW.out, List.take_length]; exact h1) p hp
     go_wp2_with fail
     go_roundw
     case rel => exact ⟨i + 1, by go_num, by omega, HI2, hbj⟩
     case measure => simp [intOf]; omega
  ·obtain rfl : i = no := by omega
   have hge : ¬ (i : Int) < (i : Int) := by omega
   have hvt : v = true := by
    rw [HVK.out, List.all_eq_true]
    intro k hk
    rw [List.all_eq_true]
    intro p hp
    refine HI.out k ?_ p (List.mem_range.1 hp)
    rw [← HN.out, keyT_all]; exact hk
   subst hvt
   go_wp2_with fail
   go_ret
   exact ⟨rfl, hbi⟩
end Go.Proofs.YtekmadgacepdfaaGreat.T
