/- Several texts as one: TM TN. -/
import Derived.Test.YtekmadgacepdfaaGreatMTJ
namespace Go.Proofs.YtekmadgacepdfaaGreat.T
set_option linter.unusedVariables false
open Go.RowKit Fl Go.Shelf
set_option linter.unusedSimpArgs false

def SortRet (r : List Int × List Int) (w : World) (e : Ending) (w' : World) : Prop := ∃ ao co al cl, e = .returned (.tuple #[.slice ao r.1.length co, .slice al r.2.length cl]) ∧
 w'.ownsRow w.heap.size 2 1 (.slice ao r.1.length co) r.1.length (nCells r.1) ∧ w'.ownsRow w.heap.size 2 1 (.slice al r.2.length cl) r.2.length (nCells r.2) ∧ Below w.heap.size w w'
theorem eCells_at {l : List (Int × Int)} {j t : Nat} {v : Value} (hj : j < l.length) (hv : (eEnc l[j])[t]? = some v) : (eCells l)[j * 2 + t]? = some v := by
 have h1 := flat_drop (f := eEnc) (K := 2) (fun _ => rfl) l j
 rw [List.drop_eq_getElem_cons hj, List.flatMap_cons] at h1
 have h2 : ((eCells l).drop (j * 2))[t]? = some v := by
  unfold eCells
  rw [h1, List.getElem?_append_left (List.getElem?_eq_some_iff.1 hv).1]; exact hv
 rw [List.getElem?_drop] at h2
 exact h2
set_option maxHeartbeats 4000000 in
set_option maxRecDepth 100000 in
theorem sort_any (a : Option Addr) (c n : Nat) (h : List DoneV) (w : World) (hn : h.length = n) (hcap : n ≤ c) (hh : HAt w a h) :
  Calls Tryz.prog 59 #[.slice a n c] w (SortRet (sortV h) w) := by
 have HX := hid hh
 have HN := hid hn
 have HRT := hid (right_any a c n h _ w hn hcap hh rfl)
 by_cases hr : rightV h = true
 rotate_left
 ·have hrf : rightV h = false := by simpa using hr
  have hsv : sortV h = ([], []) := by unfold sortV; rw [hrf]; rfl
  rw [hsv]
  have HRT := HRT.out
  rw [hrf] at HRT
  clear hr hsv hrf hh hn HX HN
  go_enter Tryz.func59, Tryz.ntmps59
  go_wp2_with (go_at_call 29; (with_reducible refine (HRT).mono ?_); rintro e w1 ⟨rfl, hb1⟩; obtain ⟨hc1, hf1⟩ := bcell hb1; (try simp only [World.heap_drewN, World.cell?_drewN, World.frozen?_drewN] at hc1 hf1); have hz1 := hb1.size; (try simp at hz1); (try have hy1_0 : w.heap.size < w1.heap.size := by omega); (try have hy1_1 : w.heap.size + 1 < w1.heap.size := by omega); (try have hx1_0 : w.heap.size ≤ w1.heap.size := by omega); (try have hx1_1 : w.heap.size + 1 ≤ w1.heap.size := by omega))
  refine bodyPost_ret (v := .tuple #[.slice none 0 0, .slice none 0 0]) (by simp [results, Tryz.results59, go_sem]) rfl ?_
  exact ⟨none, 0, none, 0, rfl, World.ownsRow_nil _ _ _ _, World.ownsRow_nil _ _ _ _, by (repeat (first | with_reducible exact Below.refl _ _ | ((with_reducible refine Below.alloc1 ?_ ?_ _); (· first | omega | (simp; done) | (simp; omega))) | (with_reducible refine Below.drew ?_) | (with_reducible refine below_drewN' ?_ _) | ((with_reducible refine Below.setCell1 ?_ ?_ _); (· first | omega | (simp; done) | (simp; omega))) | ((with_reducible refine Below.after (by assumption) ?_ ?_); (· first | omega | (simp; done) | (simp; omega)))))⟩
 have hm := right_len hr
 rw [hn] at hm
 have HR := hid hr
 have HRT := HRT.out
 rw [hr] at HRT
 have HED := hid fun W (hb : Below w.heap.size w W) => edges_any a c n h W hn hcap (hh.below hb)
 clear hh hn hr
 go_enter Tryz.func59, Tryz.ntmps59
 go_upto_region 3 with (go_at_call 29; (with_reducible refine (HRT).mono ?_); rintro e w1 ⟨rfl, hb1⟩; obtain ⟨hc1, hf1⟩ := bcell hb1; (try simp only [World.heap_drewN, World.cell?_drewN, World.frozen?_drewN] at hc1 hf1); have hz1 := hb1.size; (try simp at hz1); (try have hy1_0 : w.heap.size < w1.heap.size := by omega); (try have hy1_1 : w.heap.size + 1 < w1.heap.size := by omega); (try have hx1_0 : w.heap.size ≤ w1.heap.size := by omega); (try have hx1_1 : w.heap.size + 1 ≤ w1.heap.size := by omega))
 clear HRT
 obtain ⟨W1, hmk1, hrow1, hg1⟩ := make_ints n hm w1
 have hb1' := below_of_grown hg1
 obtain ⟨W3, hmk3, hrow3, hg3⟩ := make_rows n hm (W1.alloc (.cells #[.slice (some ⟨w1.heap.size, 0, none⟩) (n + 1) (n + 1)] 22))
 have hb3' := below_of_grown hg3
 have hbx : Below W1.heap.size W1 (W1.alloc (.cells #[.slice (some ⟨w1.heap.size, 0, none⟩) (n + 1) (n + 1)] 22)) := Below.alloc1 (Nat.le_refl _) (Below.refl _ _) _
 have hAH : AheadAt W3 W1.heap.size w1.heap.size n (cntTo (edgesV h) 0) := ⟨(hb3'.block W1.heap.size (by simp)).trans (heap_alloc_new _ _), by
  refine (hb3'.block w1.heap.size (by have := hb1'.size; have := (Array.getElem?_eq_some_iff.1 hrow1).1; simp; omega)).trans ((hbx.block w1.heap.size (Array.getElem?_eq_some_iff.1 hrow1).1).trans hrow1)⟩
 have hBH : BehAt W3 w.heap.size (W1.alloc (.cells #[.slice (some ⟨w1.heap.size, 0, none⟩) (n + 1) (n + 1)] 22)).heap.size n (fun _ => (none, 0)) (fromT (edgesV h) 0) := ⟨hrow3, fun k _ => World.ownsRow_nil _ _ _ _, fun j k _ _ _ g e => by cases e⟩
 have hbw3 : Below w.heap.size w W3 := (((hb1.trans (hb1'.mono hb1.size)).trans (hbx.mono (Nat.le_trans hb1.size hb1'.size))).trans (hb3'.mono (by have := hb1.size; have := hb1'.size; simp; omega)))
 have hCH : w.heap.size ≤ (W1.alloc (.cells #[.slice (some ⟨w1.heap.size, 0, none⟩) (n + 1) (n + 1)] 22)).heap.size := by have := hb1.size; have := hb1'.size; simp; omega
 have hCA : w.heap.size ≤ w1.heap.size := hb1.size
 have HAH := hid hAH; have HBH := hid hBH; have HB3 := hid hbw3
 clear hAH hBH hrow1 hg1 hb1' hrow3 hg3 hb3' hbx hb1 hc1 hf1 hz1
 go_upto_region 5 with fail
 clear hmk1 hmk3
 rw [show (W1.alloc (.cells #[.slice (some ⟨w1.heap.size, 0, none⟩) (n + 1) (n + 1)] 22)).heap.size = W1.heap.size + 1 by simp] at HBH hCH
 generalize W1.heap.size + 1 = H at *
 generalize w1.heap.size = A at *
 generalize W1.heap.size = X at *
 have hz3 := HB3.out.size
 have HED3 := hid (HED.out W3 HB3.out)
 go_wp2_with fail
 refine HED3.out.mono ?_
 rintro e W4 ⟨ae, ce, rfl, hE, hb4⟩
 have HAH4 := hid (HAH.out.below hb4)
 have HBH4 := hid (HBH.out.below hb4)
 have hbw4 := HB3.out.trans (hb4.mono hz3)
 have hEL : (edgesV h).length ≤ 4096 := by
  have h1 := outE_len h h.length
  have h2 : edgesV h = outE h h.length := by unfold edgesV outE; rw [if_pos HR.out, List.take_length]
  rw [h2]
  refine Nat.le_trans h1 ?_
  rw [HN.out]
  exact Nat.mul_le_mul (by omega : n ≤ 64) (by omega : n ≤ 64)
 have HEM := hid fun e he => edges_mem HR.out (e := e) he
 have HHE := hid hE
 clear hb4 HED HED3 hE HAH HBH HB3
 obtain ⟨l, hl⟩ : ∃ l, l = edgesV h := ⟨_, rfl⟩
 rw [← hl] at HAH4 HBH4 hEL HEM HHE ⊢
 obtain ⟨E, hEe⟩ : ∃ E, E = l.length := ⟨_, rfl⟩
 rw [← hEe] at hEL HHE ⊢
 have HE := hid hEe
 have HLE := hid hl
 clear hl hEe
 go_upto_region 6 with fail
 go_loopw [28] (fun t28 wx => ∃ (i : Nat) (f : Nat → Option Addr × Nat), t28 = .int .i64 (i : Nat) ∧ i ≤ E ∧ Hid (AheadAt wx X A n (cntTo l i)) ∧ Hid (BehAt wx w.heap.size H n f (fromT l i)) ∧ Hid (wx.ownsRow W3.heap.size 76 2 (.slice ae E ce) E (eCells l)) ∧ Below w.heap.size w wx) (fun t28 _ => E - (intOf t28).toNat)
 case atStart => exact ⟨0, _, rfl, Nat.zero_le _, HAH4, HBH4, HHE, hbw4⟩
 case round =>
  obtain ⟨i, f, rfl, hi, HA, HB, HEr, hbw⟩ := hrel
  by_cases hlt : i < E
  ·have hlt' : (i : Int) < (E : Int) := by omega
   have hkl : i < l.length := by rw [← HE.out]; exact hlt
   have hrow := HEr.out
   rcases hrow.2 with ⟨_, h2⟩ | ⟨g, cap, cur, h1, -⟩
   ·omega
   injection h1 with ha _ hcap2
   subst ha; subst hcap2
   have q0 := hrow.cells (g := g) rfl (i * 2 + 0) _ (eCells_at hkl (t := 0) rfl)
   have q1 := hrow.cells (g := g) rfl (i * 2 + 1) _ (eCells_at hkl (t := 1) rfl)
   rw [K.addr0] at q0 q1
   rw [Nat.add_zero] at q0
   have hgl := (hrow.lt g rfl).2
   obtain ⟨⟨m1, m2⟩, k1, k2⟩ := HEM.out l[i] (List.getElem_mem hkl)
   have hsome : l[i]? = some l[i] := List.getElem?_eq_getElem hkl
   generalize l[i] = ed at *
   obtain ⟨em, ek⟩ := ed
   simp only at m1 m2 k1 k2 q0 q1
   rw [HN.out] at m2 k2
   obtain ⟨m, rfl⟩ : ∃ m : Nat, em = (m : Int) := ⟨em.toNat, by omega⟩
   obtain ⟨k, rfl⟩ : ∃ k : Nat, ek = (k : Int) := ⟨ek.toNat, by omega⟩
   have hmN : m ≤ n := by omega
   have hkN : k ≤ n := by omega
   have hbz : Below wr.heap.size wr (wr.alloc (.cells #[.int .i64 (m : Int), .int .i64 (k : Int)] 76)) := Below.alloc1 (Nat.le_refl _) (Below.refl _ _) _
   have hA5 := HA.out.below hbz
   have hB5 := HB.out.below hbz
   have hE5 := own_keep hrow fun q cur _ hq => hbz.block q (Array.getElem?_eq_some_iff.1 hq).1
   have hX5 : (wr.alloc (.cells #[.int .i64 (m : Int), .int .i64 (k : Int)] 76)).heap[wr.heap.size]? = some (.cells #[.int .i64 (m : Int), .int .i64 (k : Int)] 76 (0, 0)) := heap_alloc_new _ _
   have hbw5 := hbw.trans (hbz.mono hbw.size)
   have hsz := hbw.size
   go_upto_region 8 with fail
   clear q0 q1 hbz hrow hgl hbw
   generalize wr.alloc (.cells #[.int .i64 (m : Int), .int .i64 (k : Int)] 76) = W5 at *
   generalize wr.heap.size = P7 at *
   have hp7 := (Array.getElem?_eq_some_iff.1 hX5).1
   have p0 : W5.cell? ⟨P7, 0, none⟩ = some (.int .i64 (m : Int)) := by rw [cell_of_row W5 P7 0 _ _ (0, 0) hX5]; rfl
   have p1 : W5.cell? ⟨P7, 1, none⟩ = some (.int .i64 (k : Int)) := by rw [cell_of_row W5 P7 1 _ _ (0, 0) hX5]; rfl
   have a0 := hA5.c0
   obtain ⟨ak, af⟩ := hA5.cell hkN
   obtain ⟨hax, haa⟩ := hA5.lt
   obtain ⟨hA6, hg6⟩ := hA5.set hkN (cntTo l i k + 1)
   rw [← cntTo_snoc hsome] at hA6
   have hB6 := hB5.other hg6 hA5.row (by decide) (by decide)
   have hP6 := (hg6.block P7 hp7 (fun e => by
    have e1 := Option.some.inj e
    rw [e1, hA5.row] at hX5
    simp only [Option.some.injEq, Obj.cells.injEq] at hX5
    exact absurd hX5.2.1 (by decide))).trans hX5
   have hE6 := own_keep hE5 fun q cur _ hq => hg6.block q (Array.getElem?_eq_some_iff.1 hq).1 fun e => by
    have e1 := Option.some.inj e
    rw [e1, hA5.row] at hq
    simp only [Option.some.injEq, Obj.cells.injEq] at hq
    exact absurd hq.2.1 (by decide)
   have hbw6 := hbw5.grown hg6 hbw5.size (fun q hq => by cases hq; exact hCA)
   obtain ⟨cl0, cl1⟩ := cntTo_le l i k
   have HA6 := hid hA6; have HB6 := hid hB6; have HP6 := hid hP6; have HE6 := hid hE6; have HB6' := hid hbw6
   clear hA5 hB5 hE5 hbw5 hA6 hg6 hB6 hP6 hE6 hbw6 hX5
   have hkN' : (k : Int) < (n : Int) + 1 := by omega
   have hcn : cntTo l i k + 1 ≤ 4097 := by omega
   generalize cntTo l i k = cv at *
   go_upto_region 9 with fail
   clear p0 p1 a0 ak af
   generalize W5.setCell ⟨A, k, none⟩ (.int .i64 (cv + 1)) = W6 at *
   obtain ⟨Y0, hY0⟩ : ∃ Y : World, Y = { W6 with drawn := W6.drawn + 1 } := ⟨_, rfl⟩
   have hb0 : Below W6.heap.size W6 Y0 := by rw [hY0]; exact Below.drew (Below.refl _ W6)
   have hA0 := HA6.out.below hb0
   have hB0 := HB6.out.below hb0
   have hP0 : Y0.heap[P7]? = _ := (hb0.block P7 (Array.getElem?_eq_some_iff.1 HP6.out).1).trans HP6.out
   have hE0 := own_keep HE6.out fun q cur _ hq => hb0.block q (Array.getElem?_eq_some_iff.1 hq).1
   have hw0 := HB6'.out.trans (hb0.mono HB6'.out.size)
   have r0 : Y0.cell? ⟨P7, 0, none⟩ = some (.int .i64 (m : Int)) := by rw [cell_of_row Y0 P7 0 _ _ (0, 0) hP0]; rfl
   have r1 : Y0.cell? ⟨P7, 1, none⟩ = some (.int .i64 (k : Int)) := by rw [cell_of_row Y0 P7 1 _ _ (0, 0) hP0]; rfl
   obtain ⟨rb, rf⟩ := hB0.cell hmN
   have hlen := fromT_len l i m
   obtain ⟨a2, c2, Y2, hrun, hs2, hf2, hB2, hw2, hst2, hst⟩ := hB0.add hmN (k : Int) hw0.size (by omega) hCH
   rw [← fromT_snoc hsome] at hB2
   have hA2 := hA0.stay hst
   have hE2 := own_keep hE0 fun q cur _ hq => (hst q _ hq (fun cur e => by simp only [Obj.cells.injEq] at e; exact absurd e.2.1 (by decide)) (fun cur e => by simp only [Obj.cells.injEq] at e; exact absurd e.2.1 (by decide))).trans hq.symm
   have hP2 : Y2.heap[P7]? = _ := hst2 P7 _ hP0 (fun cur e => by simp only [Obj.cells.injEq] at e; exact absurd e.2.1 (by decide))
   have hb1 : Below Y0.heap.size Y0 (Y0.alloc (.cells #[.int .i64 (k : Int)] 2)) := Below.alloc1 (Nat.le_refl _) (Below.refl _ _) _
   have t0 := (hb1.cell (p := ⟨P7, 0, none⟩) (Array.getElem?_eq_some_iff.1 hP0).1).trans r0
   have t2 : Y2.cell? ⟨P7, 0, none⟩ = some (.int .i64 (m : Int)) := by rw [cell_of_row Y2 P7 0 _ _ (0, 0) hP2]; rfl
   have tb := (hb1.cell (p := ⟨H, m, none⟩) hB0.lt).trans rb
   have T0 := hid t0; have T2 := hid t2; have TB := hid tb
   have HA2 := hid hA2; have HB2 := hid hB2; have HE2 := hid hE2; have HW2 := hid (hw0.trans hw2)
   have R0 := hid r0; have R1 := hid r1; have RB := hid rb; have HRUN := hid hrun; have HS2 := hid hs2; have HF2 := hid hf2; have HY0 := hid hY0
   have hmN' : (m : Int) < (n : Int) + 1 := by omega
   obtain ⟨Y3, hY3⟩ : ∃ Y : World, Y = Y2.setCell ⟨H, m, none⟩ (.slice a2 ((fromT l i m).length + 1) c2) := ⟨_, rfl⟩
   rw [← hY3] at HA2 HB2 HE2 HW2
   have HY3 := hid hY3
   clear hY0 hb0 hA0 hB0 hP0 hE0 hw0 r0 r1 rb rf hrun hs2 hf2 hB2 hw2 hst hst2 hP2 hb1 t0 t2 tb hA2 hE2 hY3 HA6 HB6 HP6 HE6 HB6' hlen
   obtain ⟨fl, hfl⟩ : ∃ fl, fl = (fromT l i m).length := ⟨_, rfl⟩
   rw [← hfl] at RB TB HRUN HY3
   generalize (f m).1 = fa at *
   generalize (f m).2 = fc at *
   clear hfl
   refine wp_region_chain (fun q => [Value.slice (some ⟨H, 0, none⟩) (n + 1) (n + 1), .pointer (some ⟨P7, 0, none⟩), .int .i64 (m : Int), .slice (some ⟨H, 0, none⟩) (n + 1) (n + 1), .pointer (some ⟨P7, 0, none⟩), .int .i64 (m : Int), .pointer (some ⟨H, m, none⟩), .slice fa fl fc, .pointer (some ⟨P7, 1, none⟩), .int .i64 (k : Int), .slice (some ⟨Y0.heap.size, 0, none⟩) 1 1, .slice a2 (fl + 1) c2, .pointer (some ⟨H, m, none⟩)].getD q undef) (fun q V => V = [Y0, Y0.alloc (.cells #[.int .i64 (k : Int)] 2), Y2, Y3].getD q Y0) (fun _ _ => False) [10, 11, 13] rfl (by kernel_rfl) (by kernel_rfl) (by decide) (by decide) HY0.out.symm ?_ ?_ ?_
   ·simp only [StepsC, List.nil_append, List.cons_append]
    refine ⟨?p0, ?p1, ?l2, ?p3, ?p4, ?l5, ?p6, ?l7, ?p8, ?l9, ?bs, ?ap, ?p12, ?st, trivial⟩
    case l2 =>
     intro jj X9 g1 g2 hx
     have hj : jj = 0 ∨ jj = 1 ∨ jj = 2 := by have : jj ≤ 2 := Nat.le_trans g2 (by decide +kernel); omega
     have c4 : X9.cell? ⟨P7, 0, none⟩ = some (.int .i64 (m : Int)) := by
      rw [hx]
      rcases hj with rfl | rfl | rfl
      ·exact R0.out
      ·exact T0.out
      ·exact T2.out
     generalize hR : (fun v w' => (_ → v = _) ∧ _) = RR
     have HR' := hid hR
     have HXX := hid hx
     clear hR g1 g2 hx
     try simp only [putsFrom, Act.put, List.setIfInBounds_toArray, List.set_cons_zero, List.set_cons_succ, Nat.zero_add, Nat.reduceAdd, List.getD_cons_zero, List.getD_cons_succ]
     go_wp2_with fail
     have hR := HR'.out
     subst hR
     exact ⟨rfl, fun _ => rfl, HXX.out⟩
    case l5 =>
     intro jj X9 g1 g2 hx
     have hj : jj = 0 ∨ jj = 1 := by have : jj ≤ 1 := Nat.le_trans g2 (by decide +kernel); omega
     have c4 : X9.cell? ⟨P7, 0, none⟩ = some (.int .i64 (m : Int)) := by
      rw [hx]
      rcases hj with rfl | rfl
      ·exact R0.out
      ·exact T0.out
     generalize hR : (fun v w' => (_ → v = _) ∧ _) = RR
     have HR' := hid hR
     have HXX := hid hx
     clear hR g1 g2 hx
     try simp only [putsFrom, Act.put, List.setIfInBounds_toArray, List.set_cons_zero, List.set_cons_succ, Nat.zero_add, Nat.reduceAdd, List.getD_cons_zero, List.getD_cons_succ]
     go_wp2_with fail
     have hR := HR'.out
     subst hR
     exact ⟨rfl, fun _ => rfl, HXX.out⟩
    case l7 =>
     intro jj X9 g1 g2 hx
     have hj : jj = 0 ∨ jj = 1 := by have : jj ≤ 1 := Nat.le_trans g2 (by decide +kernel); omega
     have c4 : X9.cell? ⟨H, m, none⟩ = some (.slice fa fl fc) := by
      rw [hx]
      rcases hj with rfl | rfl
      ·exact RB.out
      ·exact TB.out
     generalize hR : (fun v w' => (_ → v = _) ∧ _) = RR
     have HR' := hid hR
     have HXX := hid hx
     clear hR g1 g2 hx
     try simp only [putsFrom, Act.put, List.setIfInBounds_toArray, List.set_cons_zero, List.set_cons_succ, Nat.zero_add, Nat.reduceAdd, List.getD_cons_zero, List.getD_cons_succ]
     go_wp2_with fail
     have hR := HR'.out
     subst hR
     exact ⟨rfl, fun _ => rfl, HXX.out⟩
    case l9 =>
     intro jj X9 g1 g2 hx
     obtain rfl : jj = 0 := Nat.le_zero.1 (Nat.le_trans g2 (by decide +kernel))
     have c4 := R1.out
     rw [← (show X9 = Y0 from hx)] at c4
     generalize hR : (fun v w' => (_ → v = _) ∧ _) = RR
     have HR' := hid hR
     have HXX := hid hx
     clear hR g1 g2 hx
     try simp only [putsFrom, Act.put, List.setIfInBounds_toArray, List.set_cons_zero, List.set_cons_succ, Nat.zero_add, Nat.reduceAdd, List.getD_cons_zero, List.getD_cons_succ]
     go_wp2_with fail
     have hR := HR'.out
     subst hR
     exact ⟨rfl, fun _ => rfl, HXX.out⟩
    case bs =>
     intro jj X9 g1 g2 hx
     obtain rfl : jj = 0 := Nat.le_zero.1 (Nat.le_trans g2 (by decide +kernel))
     obtain rfl : X9 = Y0 := hx
     generalize hR : (fun v w' => (_ → v = _) ∧ _) = RR
     have HR' := hid hR
     clear hR g1 g2
     simp only [putsFrom, Act.put, List.setIfInBounds_toArray, List.set_cons_zero, List.set_cons_succ, Nat.zero_add, Nat.reduceAdd, List.getD_cons_zero, List.getD_cons_succ]
     go_wp2_with fail
     have hR := HR'.out
     subst hR
     exact ⟨rfl, fun _ => rfl, rfl⟩
    case ap =>
     intro jj X9 g1 g2 hx
     obtain rfl : jj = 1 := Nat.le_antisymm (Nat.le_trans g2 (by decide +kernel)) (Nat.le_trans (by decide +kernel) g1)
     obtain rfl : X9 = Y0.alloc (.cells #[.int .i64 (k : Int)] 2) := hx
     generalize hR : (fun v w' => (_ → v = _) ∧ _) = RR
     have HR' := hid hR
     clear hR g1 g2
     simp only [putsFrom, Act.put, List.setIfInBounds_toArray, List.set_cons_zero, List.set_cons_succ, Nat.zero_add, Nat.reduceAdd, List.getD_cons_zero, List.getD_cons_succ]
     go_wp2_with (at_builtin; refine Lib.wpList_append_run _ rfl _ _ _ _ rfl _ _ rfl rfl _ _ (HRUN.out _) ?_)
     have hR := HR'.out
     subst hR
     exact ⟨rfl, fun _ => rfl, rfl⟩
    case st =>
     intro jj X9 g1 g2 hx
     obtain rfl : jj = 2 := Nat.le_antisymm (Nat.le_trans g2 (by decide +kernel)) (Nat.le_trans (by decide +kernel) g1)
     obtain rfl : X9 = Y2 := hx
     have k3 := HS2.out; have f3 := HF2.out
     obtain ⟨v3, k3⟩ := Option.isSome_iff_exists.1 k3
     generalize hR : (fun v w' => (_ → v = _) ∧ _) = RR
     have HR' := hid hR
     clear hR g1 g2
     simp only [putsFrom, Act.put, List.setIfInBounds_toArray, List.set_cons_zero, List.set_cons_succ, Nat.zero_add, Nat.reduceAdd, List.getD_cons_zero, List.getD_cons_succ]
     go_wp2_with fail
     have hR := HR'.out
     subst hR
     exact ⟨rfl, fun h => absurd rfl h, HY3.out.symm⟩
    all_goals
     intro jj X9 g1 g2 hx
     generalize hR : (fun v w' => (_ → v = _) ∧ _) = RR
     have HR' := hid hR
     have HXX := hid hx
     clear hR g1 g2 hx
     try simp only [putsFrom, Act.put, List.setIfInBounds_toArray, List.set_cons_zero, List.set_cons_succ, Nat.zero_add, Nat.reduceAdd, List.getD_cons_zero, List.getD_cons_succ]
     go_wp2_with fail
     have hR := HR'.out
     subst hR
     exact ⟨rfl, fun _ => rfl, HXX.out⟩
   ·intro X9 hx
    obtain rfl : X9 = Y3 := hx
    simp only [putsFrom, Act.put, List.setIfInBounds_toArray, List.set_cons_zero, List.set_cons_succ, Nat.zero_add, Nat.reduceAdd, List.getD_cons_zero, List.getD_cons_succ]
    go_wp2_with fail
    go_roundw
    case rel => exact ⟨i + 1, _, by go_num, by omega, HA2, HB2, HE2, HW2.out⟩
    case measure => simp [intOf]; omega
   ·exact fun _ _ _ _ hx => hx.elim
  ·obtain rfl : i = E := by omega
   have hge : ¬ (i : Int) < (i : Int) := by omega
   obtain ⟨W8, rfl⟩ : ∃ x, x = wr := ⟨_, rfl⟩
   have hz8 := hbw.size
   have hA8 := HA.out.lt.2
   have hli : l.take i = l := by rw [HE.out]; exact List.take_length
   have hav : ∀ k ∈ upN n, cntTo l i k.toNat = (((upN n).filter fun m => lead h m k).length : Nat) := fun k hk => by
    obtain ⟨k1, k2⟩ := upN_mem.1 hk
    unfold cntTo
    rw [hli, HLE.out]
    have h1 := edges_to HR.out k (by rw [HN.out]; exact hk)
    rw [HN.out] at h1
    rw [← h1, show ((k.toNat : Nat) : Int) = k by omega]
   have hbs : ∀ m ∈ upN n, fromT l i m.toNat = fromN h m := fun m hm => by
    obtain ⟨k1, k2⟩ := upN_mem.1 hm
    unfold fromT
    rw [hli, HLE.out, show ((m.toNat : Nat) : Int) = m by omega]
    exact edges_from HR.out (by rw [HN.out]; exact hm)
   have HAV := hid hav; have HBS := hid hbs
   have HBR := hid fun W (hg : W8.grownBy W (some A)) => HB.out.other hg HA.out.row (by decide) (by decide)
   have HNM := hid fun j d hd => (right_num HR.out (i := j) (d := d) hd).1
   clear hav hbs hli HB HEr HEM HHE HAH4 HBH4
   go_upto_region 12 with fail
   go_loopw [3, 55] (fun t3 t55 wx => ∃ (j : Nat) (al : Option Addr) (cl : Nat), t55 = .int .i64 (j : Nat) ∧ t3 = .slice al j cl ∧ j ≤ n ∧ Hid (wx.ownsRow W8.heap.size 2 1 (.slice al j cl) j (nCells (upN j))) ∧ Below W8.heap.size W8 wx) (fun _ t55 _ => n - (intOf t55).toNat)
   case atStart => exact ⟨0, none, 0, rfl, rfl, Nat.zero_le _, hid (World.ownsRow_nil _ _ _ _), Below.refl _ _⟩
   case round =>
    obtain ⟨j, al, cl, rfl, rfl, hj, HL, hb9⟩ := hrel
    by_cases hjn : j < n
    ·have hjn' : (j : Int) < (n : Int) := by omega
     have hjl : j < h.length := by rw [HN.out]; exact hjn
     have hsome : h[j]? = some (h[j]?.getD default) := by rw [List.getElem?_eq_getElem hjl]; rfl
     have HNUM := hid (HNM.out j _ hsome)
     rcases ((HX.out.below hbw).below hb9).row with h0 | ⟨b, o, ha, hbl, hc⟩
     ·rw [h0] at hjl; simp at hjl
     subst ha
     have hc := hc j hjl
     clear hsome hjl
     generalize h[j]?.getD default = x at *
     have c0 : wr.cell? ⟨b, o + j * 7, none⟩ = some (.int .i64 x.num) := hc 0 _ rfl
     have c1 := hc 1 _ rfl
     have c2 := hc 2 _ rfl
     have c3 := hc 3 _ rfl
     have c4 := hc 4 _ rfl
     have c5 := hc 5 _ rfl
     have c6 := hc 6 _ rfl
     clear hc
     have hbz : Below wr.heap.size wr (wr.alloc (.cells #[.int .i64 x.num, .int .i64 x.s.s0, .int .i64 x.s.s1, .int .i64 x.s.s2, .slice x.s.ra x.s.rs.length x.s.rc, .slice x.s.sa x.s.ss.length x.s.sc, .slice x.s.wa x.s.ws.length x.s.wc] 73)) := Below.alloc1 (Nat.le_refl _) (Below.refl _ _) _
     have hX5 : (wr.alloc (.cells #[.int .i64 x.num, .int .i64 x.s.s0, .int .i64 x.s.s1, .int .i64 x.s.s2, .slice x.s.ra x.s.rs.length x.s.rc, .slice x.s.sa x.s.ss.length x.s.sc, .slice x.s.wa x.s.ws.length x.s.wc] 73)).cell? ⟨wr.heap.size, 0, none⟩ = some (.int .i64 x.num) := by simp [go_sem]
     have hL5 := own_keep HL.out fun q cur _ hq => hbz.block q (Array.getElem?_eq_some_iff.1 hq).1
     have hb5 := hb9.trans (hbz.mono hb9.size)
     have hz5 : wr.heap.size < (wr.alloc (.cells #[.int .i64 x.num, .int .i64 x.s.s0, .int .i64 x.s.s1, .int .i64 x.s.s2, .slice x.s.ra x.s.rs.length x.s.rc, .slice x.s.sa x.s.ss.length x.s.sc, .slice x.s.wa x.s.ws.length x.s.wc] 73)).heap.size := by simp
     go_upto_region 14 with fail
     clear c0 c1 c2 c3 c4 c5 c6 hbz HL hb9
     generalize wr.alloc (.cells #[.int .i64 x.num, .int .i64 x.s.s0, .int .i64 x.s.s1, .int .i64 x.s.s2, .slice x.s.ra x.s.rs.length x.s.rc, .slice x.s.sa x.s.ss.length x.s.sc, .slice x.s.wa x.s.ws.length x.s.wc] 73) = W5 at *
     obtain ⟨a2, c2, w2, hr2, hO2, hb2, -, -⟩ := appN x.num (upN_len j) hL5 hb5.size (by omega)
     rw [HNUM.out, ← upN_snoc] at hO2
     have HO2 := hid hO2
     have HB2 := hid (hb5.trans hb2)
     clear hL5 hb5 hO2 hb2
     go_wp2_with (at_builtin; refine Lib.wpList_append_run _ rfl _ _ _ _ rfl _ _ rfl rfl _ _ (hr2 _) ?_)
     go_roundw
     case rel => exact ⟨j + 1, a2, c2, by go_num, rfl, by omega, HO2, HB2.out⟩
     case measure => simp [intOf]; omega
    ·obtain rfl : j = n := by omega
     have hge2 : ¬ (j : Int) < (j : Int) := by omega
     have HA9 := hid (HA.out.below hb9)
     have hg9 : W8.grownBy wr (some A) := ⟨hb9.os, hb9.tape, hb9.output, hb9.size, fun k hk _ => hb9.block k hk⟩
     have HL9 := HL
     clear hb9 HL HA
     go_upto_region 16 with fail
     go_loopw [2, 3] (fun t2 t3 wx => ∃ (o l' : List Int) (av : Nat → Int) (ao : Option Addr) (co : Nat) (al : Option Addr) (cl no nl : Nat), t2 = .slice ao no co ∧ t3 = .slice al nl cl ∧ Hid (no = o.length) ∧ Hid (nl = l'.length) ∧
      Hid (wx.ownsRow W8.heap.size 2 1 (.slice ao no co) no (nCells o)) ∧ Hid (wx.ownsRow W8.heap.size 2 1 (.slice al nl cl) nl (nCells l')) ∧ Hid (∀ g, (Value.slice ao no co).ownBlock = some g → (Value.slice al nl cl).ownBlock ≠ some g) ∧
      Hid (AheadAt wx X A j av) ∧ W8.grownBy wx (some A) ∧ Hid (∀ k ∈ upN j, av k.toNat = ((l'.filter fun m => lead h m k).length : Nat)) ∧
      Hid (topo (lead h) j (upN j) = (o ++ (topo (lead h) l'.length l').1, (topo (lead h) l'.length l').2)) ∧ Hid (l'.Nodup) ∧ Hid (∀ x ∈ l', x ∈ upN j) ∧ no + nl = j) (fun _ t3 _ => lenV t3)
     case atStart => exact ⟨[], upN j, cntTo l i, none, 0, al, cl, 0, j, rfl, rfl, hid rfl, hid (upN_len j).symm, hid (World.ownsRow_nil _ _ _ _), HL9, hid (fun g e => by cases e), HA9, hg9, HAV, hid (by rw [upN_len]; rfl), hid (rise_nodup (upN_rise _)), hid (fun x hx => hx), by omega⟩
     case round =>
      obtain ⟨o, l', av, ao, co, al, cl, no, nl, rfl, rfl, HNO, HNL, HO, HL, HAP, HAv, hgw, HCN, HTP, HND, HSB, hsum⟩ := hrel
      clear hg9 HA9 HL9
      have hw : Below w.heap.size w wr := below_grownA hbw hgw hCA hz8
      have hszw := hw.size
      have HIX := idxSort_any (fun x => decide (av x.toNat = 0)) al cl X l' nl wr HNL.out.symm (own_nat HNL.out.symm HL.out (by unfold maxLen; omega)) (fun W x hb hx => sort1_any x X A j av W (HAv.out.below hb) (by have := upN_mem.1 (HSB.out x hx); omega) hm)
      rw [idxB_congr (q := freeN (lead h) l') fun x hx => by
       rw [HCN.out x (HSB.out x hx)]
       unfold freeN
       rw [Bool.eq_iff_iff, decide_eq_true_eq, Bool.not_eq_true', List.any_eq_false]
       constructor
       ·intro h0 m hm
        have : (l'.filter fun m => lead h m x).length = 0 := by omega
        have := List.eq_nil_of_length_eq_zero this
        rw [List.filter_eq_nil_iff] at this
        exact this m hm
       ·intro h0
        have : l'.filter (fun m => lead h m x) = [] := by rw [List.filter_eq_nil_iff]; exact h0
        rw [this]; rfl] at HIX
      obtain ⟨r, hr⟩ : ∃ r, r = idxB (freeN (lead h) l') l' := ⟨_, rfl⟩
      rw [← hr] at HIX
      by_cases hneg : r < 0
      ·have hfin : sortV h = (o, l') := by
        unfold sortV
        rw [if_pos HR.out, HN.out, HTP.out, topo_end (find_none (by rw [← hr]; exact hneg))]
        simp
       have HFIN := hid hfin
       clear hr hfin
       go_wp2_with (go_at_call 105; (with_reducible refine (HIX).mono ?_); rintro e w1 ⟨rfl, hb1⟩; obtain ⟨hc1, hf1⟩ := bcell hb1; (try simp only [World.heap_drewN, World.cell?_drewN, World.frozen?_drewN] at hc1 hf1); have hz1 := hb1.size; (try simp at hz1); (try have hy1_0 : w.heap.size < w1.heap.size := by omega); (try have hy1_1 : w.heap.size + 1 < w1.heap.size := by omega); (try have hx1_0 : w.heap.size ≤ w1.heap.size := by omega); (try have hx1_1 : w.heap.size + 1 ≤ w1.heap.size := by omega))
       refine bodyPost_ret (v := .tuple #[.slice ao no co, .slice al nl cl]) (by simp [results, Tryz.results59, go_sem]) rfl ?_
       have hwf := hw.trans (hb1.mono hszw)
       rw [HFIN.out]
       refine ⟨ao, co, al, cl, by rw [HNO.out, HNL.out], ?_, ?_, hwf⟩
       ·rw [← HNO.out]; exact K.own_le (own_keep HO.out fun q cur _ hq => hb1.block q (Array.getElem?_eq_some_iff.1 hq).1) hz8
       ·rw [← HNL.out]; exact K.own_le (own_keep HL.out fun q cur _ hq => hb1.block q (Array.getElem?_eq_some_iff.1 hq).1) hz8
      ·obtain ⟨q, rfl⟩ : ∃ q : Nat, r = (q : Int) := ⟨r.toNat, by omega⟩
       obtain ⟨hql, hfind⟩ := find_idx hr.symm
       have hqn : q < nl := by rw [HNL.out]; exact hql
       have hqn' : (q : Int) < (nl : Int) := by omega
       have hrow := HL.out
       rcases hrow.2 with ⟨_, h2⟩ | ⟨gl, cap, cur, h1, -⟩
       ·omega
       injection h1 with ha _ hcap2
       subst ha; subst hcap2
       have q1 := hrow.cells (g := gl) rfl q (.int .i64 l'[q]) (by unfold nCells; rw [List.getElem?_map, List.getElem?_eq_getElem hql]; rfl)
       rw [K.addr0] at q1
       have hgl := hrow.lt gl rfl
       have hmem : l'[q] ∈ l' := List.getElem_mem hql
       obtain ⟨n1, n2⟩ := upN_mem.1 (HSB.out _ hmem)
       have hers := erase_idx HND.out hql
       have hstep := topo_step hfind
       clear hr hfind
       generalize l'[q] = nn at *
       obtain ⟨m, rfl⟩ : ∃ m : Nat, nn = (m : Int) := ⟨nn.toNat, by omega⟩
       have hmj : m ≤ j := by omega
       have hmU : (m : Int) ∈ upN j := HSB.out _ hmem
       have HMU := hid hmU; have HERS := hid hers; have HSTEP := hid hstep; have HMEM := hid hmem
       clear hers hstep hmU hmem
       go_upto_region 19 with (go_at_call 105; (with_reducible refine (HIX).mono ?_); rintro e w1 ⟨rfl, hb1⟩; obtain ⟨hc1, hf1⟩ := bcell hb1; (try simp only [World.heap_drewN, World.cell?_drewN, World.frozen?_drewN] at hc1 hf1); have hz1 := hb1.size; (try simp at hz1); (try have hy1_0 : w.heap.size < w1.heap.size := by omega); (try have hy1_1 : w.heap.size + 1 < w1.heap.size := by omega); (try have hx1_0 : w.heap.size ≤ w1.heap.size := by omega); (try have hx1_1 : w.heap.size + 1 ≤ w1.heap.size := by omega))
       have hO1 := own_keep HO.out fun q cur _ hq => hb1.block q (Array.getElem?_eq_some_iff.1 hq).1
       have hL1 := own_keep hrow fun q cur _ hq => hb1.block q (Array.getElem?_eq_some_iff.1 hq).1
       have q2 := (hb1.cell (p := ⟨gl, q, none⟩) hgl.2).trans q1
       have hA1 := HAv.out.below hb1
       have hg1 : W8.grownBy w1 (some A) := grownA_below hgw hb1 hgw.size
       have hgl2 : gl < w1.heap.size := Nat.lt_of_lt_of_le hgl.2 hb1.size
       clear q1 hrow HIX hb1 hgl hc1 hf1 hz1
       have HO1 := hid hO1; have HL1 := hid hL1; have HA1 := hid hA1; have HG1 := hid hg1
       clear hO1 hL1 hA1 hg1
       go_upto_region 20 with fail
       obtain ⟨a2, c2, w2, hr2, hO2, hb2, hg2, hfr2⟩ := appN (m : Int) HNO.out.symm HO1.out HG1.out.size (by omega)
       have hL2 := own_keep HL1.out fun g cur hgo hq => hg2.block g (Array.getElem?_eq_some_iff.1 hq).1 fun e => HAP.out g e.symm hgo
       have hAP2 : ∀ g, (Value.slice a2 (no + 1) c2).ownBlock = some g → (Value.slice (some ⟨gl, 0, none⟩) nl cl).ownBlock ≠ some g := fun g hg e => by
        rcases hfr2 with h1 | h1 | ⟨g', h1, h2⟩
        ·exact HAP.out g (h1 ▸ hg) e
        ·rw [h1] at hg; cases hg
        ·rw [h1] at hg
         cases hg
         have := (HL1.out.lt _ e).2
         omega
       have hA2 := HA1.out.own HO1.out hg2
       have hg2' : W8.grownBy w2 (some A) := grownA_own HG1.out hg2 (fun g hg => (HO1.out.lt g hg).1)
       have HO2 := hid hO2; have HL2 := hid hL2; have HA2 := hid hA2; have HG2 := hid hg2'; have HAP2 := hid hAP2
       clear hO2 hb2 hg2 hfr2 hL2 hAP2 hA2 hg2' HO1 HL1 HA1 HG1 q2
       go_upto_region 21 with (at_builtin; refine Lib.wpList_append_run _ rfl _ _ _ _ rfl _ _ rfl rfl _ _ (hr2 _) ?_)
       have HDEL := del_any q HNL.out.symm HL2.out hqn
       rw [show ((q + 1 : Nat) : Int) = (q : Int) + 1 by omega] at HDEL
       have HDEL := hid HDEL
       have hq64 : (q : Int) + 1 ≤ 65 := by omega
       clear hr2
       go_wp2_with fail
       refine HDEL.out.mono ?_
       rintro e w3 ⟨rfl, hL3, hg3⟩
       have hO3 := own_keep HO2.out fun g cur hgo hq => hg3.block g (Array.getElem?_eq_some_iff.1 hq).1 fun e => HAP2.out g hgo e.symm
       have hA3 := HA2.out.own HL2.out hg3
       have hg3' : W8.grownBy w3 (some A) := grownA_own HG2.out hg3 (fun g hg => (HL2.out.lt g hg).1)
       rw [HERS.out] at hL3
       have hbc := ((HBR.out w3 hg3').cell hmj).1
       have hbse : fromT l i m = fromN h m := by have := HBS.out (m : Int) HMU.out; rwa [Int.toNat_natCast] at this
       have HBN := hid fun W (hg : W8.grownBy W (some A)) => own_nat rfl ((HBR.out W hg).own m hmj) (by have := fromT_len l i m; unfold maxLen; omega)
       rw [hbse] at hbc HBN
       have hHl := (HBR.out w3 hg3').lt
       have hfl : (fromN h m).length ≤ 64 := Nat.le_trans (List.length_filter_le _ _) (by rw [upN_len, HN.out]; omega)
       generalize (f m).1 = fa at *
       generalize (f m).2 = fc at *
       obtain ⟨L, hLe⟩ : ∃ L, L = (fromN h m).length := ⟨_, rfl⟩
       rw [← hLe] at hbc hfl
       have HLE2 := hid hLe
       have HO3 := hid hO3; have HL3 := hid hL3; have HA3 := hid hA3; have HG3 := hid hg3'
       have hmj' : (m : Int) < (j : Int) + 1 := by omega
       clear HDEL hL3 hg3 hO3 hA3 hg3' hbse hLe HO2 HL2 HA2 HG2
       go_upto_region 23 with fail
       clear hbc hHl
       go_loopw [90] (fun t90 wx => ∃ p : Nat, t90 = .int .i64 (p : Nat) ∧ p ≤ L ∧ Hid (AheadAt wx X A j (fun k => av k - ((((fromN h m).take p).count (k : Int) : Nat) : Int))) ∧ Hid (wx.ownsRow W8.heap.size 2 1 (.slice a2 (no + 1) c2) (no + 1) (nCells (o ++ [(m : Int)]))) ∧ Hid (wx.ownsRow W8.heap.size 2 1 (.slice (some ⟨gl, 0, none⟩) (nl - 1) cl) (nl - 1) (nCells (l'.erase (m : Int)))) ∧ W8.grownBy wx (some A)) (fun t90 _ => L - (intOf t90).toNat)
       case atStart => exact ⟨0, rfl, Nat.zero_le _, hid (by simpa using HA3.out), HO3, HL3, HG3.out⟩
       case round =>
        obtain ⟨p, rfl, hp, HAP4, HO4, HL4, hg4⟩ := hrel
        by_cases hpl : p < L
        ·have hpl' : (p : Int) < (L : Int) := by omega
         have hpf : p < (fromN h m).length := by rw [← HLE2.out]; exact hpl
         have hsome : (fromN h m)[p]? = some ((fromN h m)[p]?.getD 0) := by rw [List.getElem?_eq_getElem hpf]; rfl
         rcases (HBN.out wr hg4).row with h0 | ⟨b, oo, ha, hbl, hc⟩
         ·rw [h0] at hpf; simp at hpf
         have hc := hc p hpf
         have hyU : (fromN h m)[p]?.getD 0 ∈ upN j := by
          have := List.mem_of_getElem? hsome
          unfold fromN at this
          rw [← HN.out]
          exact (List.mem_filter.1 this).1
         have htk : (fromN h m).take (p + 1) = (fromN h m).take p ++ [(fromN h m)[p]?.getD 0] := by rw [List.take_add_one, hsome]; rfl
         have hyp := upN_mem.1 hyU
         have hcy := HCN.out _ hyU
         subst ha
         clear hsome hpf
         generalize (fromN h m)[p]?.getD 0 = y at *
         obtain ⟨yy, rfl⟩ : ∃ yy : Nat, y = (yy : Int) := ⟨y.toNat, by omega⟩
         rw [Int.toNat_natCast] at hcy
         have hyj : yy ≤ j := by omega
         have a0 := HAP4.out.c0
         obtain ⟨ak, af⟩ := HAP4.out.cell hyj
         obtain ⟨hax, haa⟩ := HAP4.out.lt
         obtain ⟨hA5, hg5⟩ := HAP4.out.set hyj (av yy - ((((fromN h m).take p).count (yy : Int) : Nat) : Int) - 1)
         have hcl : ((fromN h m).take p).count (yy : Int) ≤ 64 := Nat.le_trans List.count_le_length (by rw [List.length_take]; omega)
         have hfl2 : (l'.filter fun m => lead h m (yy : Int)).length ≤ 64 := Nat.le_trans (List.length_filter_le _ _) (by have := HNL.out; omega)
         have hfun : (fun k => if k = yy then av yy - ((((fromN h m).take p).count (yy : Int) : Nat) : Int) - 1 else av k - ((((fromN h m).take p).count (k : Int) : Nat) : Int)) = fun k => av k - ((((fromN h m).take (p + 1)).count (k : Int) : Nat) : Int) := by
          funext k
          rw [htk, List.count_append]
          by_cases hk : k = yy
          ·subst hk
           rw [if_pos rfl]
           simp; omega
          ·rw [if_neg hk]
           have : List.count (k : Int) [(yy : Int)] = 0 := by rw [List.count_eq_zero]; simp; omega
           rw [this, Nat.add_zero]
         rw [hfun] at hA5
         have hO5 := own_keep HO4.out fun g cur _ hq => hg5.block g (Array.getElem?_eq_some_iff.1 hq).1 fun e => by
          have e1 := Option.some.inj e
          rw [e1, HAP4.out.row] at hq
          simp only [Option.some.injEq, Obj.cells.injEq] at hq
          exact absurd hq.2.1 (by decide)
         have hL5 := own_keep HL4.out fun g cur _ hq => hg5.block g (Array.getElem?_eq_some_iff.1 hq).1 fun e => by
          have e1 := Option.some.inj e
          rw [e1, HAP4.out.row] at hq
          simp only [Option.some.injEq, Obj.cells.injEq] at hq
          exact absurd hq.2.1 (by decide)
         have HA5 := hid hA5; have HO5 := hid hO5; have HL5 := hid hL5; have HG5 := hid (grownA_set hg4 hg5)
         have hv1 : -200 ≤ av yy - ((((fromN h m).take p).count (yy : Int) : Nat) : Int) := by omega
         have hv2 : av yy - ((((fromN h m).take p).count (yy : Int) : Nat) : Int) ≤ 200 := by omega
         have hyj' : (yy : Int) < (j : Int) + 1 := by omega
         clear hA5 hg5 hO5 hL5 hfun htk hcy hyU hyp hcl hfl2
         generalize av yy - ((((fromN h m).take p).count (yy : Int) : Nat) : Int) = cv at *
         go_wp2_with fail
         go_roundw
         case rel => exact ⟨p + 1, by go_num, by omega, HA5, HO5, HL5, HG5.out⟩
         case measure => simp [intOf]; omega
        ·obtain rfl : p = L := by omega
         have hge3 : ¬ (p : Int) < (p : Int) := by omega
         have htk : (fromN h m).take p = fromN h m := by rw [HLE2.out]; exact List.take_length
         have HA6 := HAP4.out
         rw [htk] at HA6
         have HA6 := hid HA6
         have hlen := List.length_erase_of_mem HMEM.out
         have hCN6 : ∀ k ∈ upN j, av k.toNat - (((fromN h m).count ((k.toNat : Nat) : Int) : Nat) : Int) = (((l'.erase (m : Int)).filter fun x => lead h x k).length : Nat) := fun k hk => by
          obtain ⟨k1, k2⟩ := upN_mem.1 hk
          rw [HCN.out k hk, show ((k.toNat : Nat) : Int) = k by omega, ← filter_erase (p := fun x => lead h x k) HND.out HMEM.out]
          have hcn : (fromN h m).count k = if lead h m k = true then 1 else 0 := by
           have hnd : (fromN h m).Nodup := by unfold fromN; exact (rise_nodup (upN_rise _)).sublist List.filter_sublist
           by_cases hld : lead h m k = true
           ·rw [if_pos hld]
            have h3 := List.count_pos_iff.2 (show k ∈ fromN h m from List.mem_filter.2 ⟨by rw [HN.out]; exact hk, hld⟩)
            have h4 := List.nodup_iff_count.1 hnd k
            omega
           ·rw [if_neg hld, List.count_eq_zero]
            exact fun hm => hld (List.mem_filter.1 hm).2
          rw [hcn]
          by_cases hld : lead h m k = true
          ·simp [hld]
          ·simp [hld]
         have HCN6 := hid hCN6
         have HAP6 : Hid (∀ g, (Value.slice a2 (no + 1) c2).ownBlock = some g → (Value.slice (some ⟨gl, 0, none⟩) (nl - 1) cl).ownBlock ≠ some g) := hid HAP2.out
         have hTP6 : topo (lead h) j (upN j) = ((o ++ [(m : Int)]) ++ (topo (lead h) (l'.erase (m : Int)).length (l'.erase (m : Int))).1, (topo (lead h) (l'.erase (m : Int)).length (l'.erase (m : Int))).2) := by
          rw [HTP.out, HSTEP.out]
          simp
         have HTP6 := hid hTP6
         have HNL6 : Hid (nl - 1 = (l'.erase (m : Int)).length) := hid (by rw [hlen, HNL.out])
         have HNO6 : Hid (no + 1 = (o ++ [(m : Int)]).length) := hid (by rw [List.length_append, HNO.out]; rfl)
         have HND6 : Hid ((l'.erase (m : Int)).Nodup) := hid (HND.out.sublist List.erase_sublist)
         have HSB6 : Hid (∀ x ∈ l'.erase (m : Int), x ∈ upN j) := hid fun x hx => HSB.out x (List.mem_of_mem_erase hx)
         clear hCN6 hTP6 htk hlen
         go_wp2_with fail
         go_roundw
         case rel => exact ⟨o ++ [(m : Int)], l'.erase (m : Int), _, a2, c2, some ⟨gl, 0, none⟩, cl, no + 1, nl - 1, rfl, rfl, HNO6, HNL6, HO4, HL4, HAP6, HA6, hg4, HCN6, HTP6, HND6, HSB6, by omega⟩
         case measure => simp [lenV]; omega
end Go.Proofs.YtekmadgacepdfaaGreat.T
namespace Go.Proofs.YtekmadgacepdfaaGreat.T
set_option linter.unusedVariables false
open Go.RowKit Fl Go.Shelf
set_option linter.unusedSimpArgs false

def ordV (h : List DoneV) : List Int × Bool := if rightV h = true ∧ (sortV h).2 = [] then ((sortV h).1, true) else ([], false)
def OrderRet (r : List Int × Bool) (w : World) (e : Ending) (w' : World) : Prop := ∃ a c, e = .returned (.tuple #[.slice a r.1.length c, .bool r.2]) ∧ w'.ownsRow w.heap.size 2 1 (.slice a r.1.length c) r.1.length (nCells r.1) ∧ Below w.heap.size w w'
def NumsRetT (l : List Int) (w : World) (e : Ending) (w' : World) : Prop := ∃ a c, e = .returned (.slice a l.length c) ∧ w'.ownsRow w.heap.size 2 1 (.slice a l.length c) l.length (nCells l) ∧ Below w.heap.size w w'
set_option maxRecDepth 100000 in
theorem order_any (a : Option Addr) (c n : Nat) (h : List DoneV) (w : World) (hn : h.length = n) (hcap : n ≤ c) (hh : HAt w a h) :
  Calls Tryz.prog 31 #[.slice a n c] w (OrderRet (ordV h) w) := by
 have HS := sort_any a c n h w hn hcap hh
 have HR := fun W (hb : Below w.heap.size w W) => right_any a c n h _ W hn hcap (hh.below hb) rfl
 have HSORT := hid (rfl : sortV h = sortV h)
 obtain ⟨o, l, hol⟩ : ∃ o l, sortV h = (o, l) := ⟨_, _, rfl⟩
 have HOL := hid hol
 rw [hol] at HS
 have hord : ordV h = if rightV h = true ∧ l = [] then (o, true) else ([], false) := by unfold ordV; rw [hol]
 obtain ⟨rr, hrr⟩ : ∃ rr, rr = ordV h := ⟨_, rfl⟩
 rw [← hrr]
 have HRR := hid (hrr.trans hord)
 clear hol hord hh hn HSORT hrr
 go_enter Tryz.func31, Tryz.ntmps31
 go_upto_region 1 with fail
 go_wp2_with fail
 refine HS.mono ?_
 rintro e w1 ⟨ao, co, al, cl, rfl, hO, hL, hb1⟩
 have HO := hid hO; have HL := hid hL
 have hll : l.length ≤ 1000000 ∨ 1000000 < l.length := Nat.lt_or_ge 1000000 l.length |>.symm
 have HRW := HR w1 hb1
 clear HR hO hL HS
 cases hr : rightV h
 ·rw [hr] at HRW
  have hrr := HRR.out
  rw [if_neg (by rw [hr]; simp)] at hrr
  subst hrr
  clear hr
  generalize o.length = no at *
  generalize l.length = nl at *
  go_wp2_with (go_at_call 29; (with_reducible refine (HRW).mono ?_); rintro e w2 ⟨rfl, hb2⟩; obtain ⟨hc2, hf2⟩ := bcell hb2; (try simp only [World.heap_drewN, World.cell?_drewN, World.frozen?_drewN] at hc2 hf2); have hz2 := hb2.size; (try simp at hz2); (try have hy2_0 : w.heap.size < w2.heap.size := by omega); (try have hy2_1 : w.heap.size + 1 < w2.heap.size := by omega); (try have hx2_0 : w.heap.size ≤ w2.heap.size := by omega); (try have hx2_1 : w.heap.size + 1 ≤ w2.heap.size := by omega))
  refine bodyPost_ret (v := .tuple #[.slice none 0 0, .bool false]) (by simp [results, Tryz.results31, go_sem]) rfl ?_
  exact ⟨none, 0, rfl, World.ownsRow_nil _ _ _ _, hb1.trans (hb2.mono hb1.size)⟩
 ·rw [hr] at HRW
  cases l with
  | nil =>
   have hrr := HRR.out
   rw [if_pos ⟨hr, rfl⟩] at hrr
   subst hrr
   clear hr
   obtain ⟨no, hno⟩ : ∃ no, no = o.length := ⟨_, rfl⟩
   rw [← hno]
   simp only [List.length_nil]
   have HO : Hid (w1.ownsRow w.heap.size 2 1 (.slice ao no co) no (nCells o)) := hid (by rw [hno]; exact HO.out)
   have HNO := hid hno
   clear hno
   go_wp2_with (go_at_call 29; (with_reducible refine (HRW).mono ?_); rintro e w2 ⟨rfl, hb2⟩; obtain ⟨hc2, hf2⟩ := bcell hb2; (try simp only [World.heap_drewN, World.cell?_drewN, World.frozen?_drewN] at hc2 hf2); have hz2 := hb2.size; (try simp at hz2); (try have hy2_0 : w.heap.size < w2.heap.size := by omega); (try have hy2_1 : w.heap.size + 1 < w2.heap.size := by omega); (try have hx2_0 : w.heap.size ≤ w2.heap.size := by omega); (try have hx2_1 : w.heap.size + 1 ≤ w2.heap.size := by omega))
   refine bodyPost_ret (v := .tuple #[.slice ao no co, .bool true]) (by simp [results, Tryz.results31, go_sem]) rfl ?_
   exact ⟨ao, co, by rw [← HNO.out], by rw [← HNO.out]; exact own_keep HO.out fun q cur _ hq => hb2.block q (Array.getElem?_eq_some_iff.1 hq).1, hb1.trans (hb2.mono hb1.size)⟩
  | cons x l =>
   have hrr := HRR.out
   rw [if_neg (by simp)] at hrr
   subst hrr
   clear hr
   have hpos : (0 : Int) < ((x :: l).length : Nat) := by rw [List.length_cons]; omega
   generalize (x :: l).length = nl at *
   generalize o.length = no at *
   go_wp2_with (go_at_call 29; (with_reducible refine (HRW).mono ?_); rintro e w2 ⟨rfl, hb2⟩; obtain ⟨hc2, hf2⟩ := bcell hb2; (try simp only [World.heap_drewN, World.cell?_drewN, World.frozen?_drewN] at hc2 hf2); have hz2 := hb2.size; (try simp at hz2); (try have hy2_0 : w.heap.size < w2.heap.size := by omega); (try have hy2_1 : w.heap.size + 1 < w2.heap.size := by omega); (try have hx2_0 : w.heap.size ≤ w2.heap.size := by omega); (try have hx2_1 : w.heap.size + 1 ≤ w2.heap.size := by omega))
   refine bodyPost_ret (v := .tuple #[.slice none 0 0, .bool false]) (by simp [results, Tryz.results31, go_sem]) rfl ?_
   exact ⟨none, 0, rfl, World.ownsRow_nil _ _ _ _, hb1.trans (hb2.mono hb1.size)⟩
theorem stuck_any (a : Option Addr) (c n : Nat) (h : List DoneV) (w : World) (hn : h.length = n) (hcap : n ≤ c) (hh : HAt w a h) :
  Calls Tryz.prog 32 #[.slice a n c] w (NumsRetT (sortV h).2 w) := by
 have HS := sort_any a c n h w hn hcap hh
 clear hh hn
 go_enter Tryz.func32, Tryz.ntmps32
 go_upto_region 1 with fail
 go_wp2_with fail
 refine HS.mono ?_
 rintro e w1 ⟨ao, co, al, cl, rfl, hO, hL, hb1⟩
 obtain ⟨nl, hnl⟩ : ∃ nl, nl = (sortV h).2.length := ⟨_, rfl⟩
 have HL := hid hL
 rw [← hnl]
 have HNL := hid hnl
 clear hL hO hnl
 go_wp2_with fail
 go_ret
 exact ⟨al, cl, by rw [← HNL.out]; rfl, HL.out, hb1⟩
theorem ver_snoc {h : List DoneV} {k : Nat} {snap : Int} {i : Nat} {x : DoneV} (hx : h[i]? = some x) : versionV (h.take (i + 1)) k snap = if (decide (x.num ≤ snap) && x.s.writes k) = true then x.num else versionV (h.take i) k snap := by
 unfold versionV lastOf
 rw [List.take_add_one, hx, List.filter_append, List.map_append]
 by_cases hc : (decide (x.num ≤ snap) && x.s.writes k) = true
 ·rw [if_pos hc]
  simp only [Option.toList_some, List.filter_cons, hc, if_true, List.filter_nil, List.map_cons, List.map_nil]
  rw [List.getLast?_concat]; rfl
 ·rw [if_neg hc]
  simp only [Option.toList_some, List.filter_cons, List.filter_nil]
  rw [if_neg hc]
  simp
set_option maxHeartbeats 1000000 in
set_option maxRecDepth 100000 in
theorem version_any (a : Option Addr) (c n : Nat) (h : List DoneV) (key : Nat) (snap : Int) (w : World) (hn : h.length = n) (hh : HAt w a h) :
  Calls Tryz.prog 64 #[.slice a n c, .float .f64 key, .int .i64 snap] w (Ret (.int .i64 (versionV h key snap)) w) := by
 have hm := hh.len
 rw [hn] at hm
 have HX := hid hh
 have HN := hid hn
 clear hh hn
 go_enter Tryz.func64, Tryz.ntmps64
 go_upto_region 3 with fail
 go_loopw [7, 12] (fun t7 t12 wr => ∃ k : Nat, t12 = .int .i64 (k : Nat) ∧ t7 = .int .i64 (versionV (h.take k) key snap) ∧ k ≤ n ∧ Below w.heap.size w wr) (fun _ t12 _ => n - (intOf t12).toNat)
 case atStart => exact ⟨0, rfl, rfl, Nat.zero_le _, Below.refl _ _⟩
 case round =>
  obtain ⟨k, rfl, rfl, hk, hbw⟩ := hrel
  by_cases hlt : k < n
  ·have hkl : k < h.length := by rw [HN.out]; exact hlt
   have hlt' : (k : Int) < (n : Int) := by omega
   have hsz := hbw.size
   have hkx : Hid (h[k]? = some (h[k]?.getD default)) := hid (by rw [List.getElem?_eq_getElem hkl]; rfl)
   rcases (HX.out.below hbw).row with h0 | ⟨b, o, ha, hbl, hc⟩
   ·rw [h0] at hkl; simp at hkl
   subst ha
   have hc := hc k hkl
   have HS := hid (HX.out.sub k hkl)
   clear hkl
   generalize h[k]?.getD default = x at *
   have c0 : wr.cell? ⟨b, o + k * 7, none⟩ = some (.int .i64 x.num) := hc 0 _ rfl
   have c1 := hc 1 _ rfl
   have c2 := hc 2 _ rfl
   have c3 := hc 3 _ rfl
   have c4 := hc 4 _ rfl
   have c5 := hc 5 _ rfl
   have c6 := hc 6 _ rfl
   clear hc
   have HW := fun W (hb : Below w.heap.size w W) => subWrites_any x.s key W (HS.out.below hb)
   have HSN := hid (ver_snoc (k := key) (snap := snap) hkx.out)
   generalize versionV (h.take k) key snap = v at *
   obtain ⟨bw, hbw'⟩ : ∃ bw, x.s.writes key = bw := ⟨_, rfl⟩
   rw [hbw'] at HW
   have HBW := hid hbw'
   clear hbw'
   by_cases q1 : x.num ≤ snap
   ·cases bw
    ·have HV : Hid (v = versionV (h.take (k + 1)) key snap) := hid (by rw [HSN.out, HBW.out]; simp)
     go_wp2_with (go_at_call 65; (with_reducible refine (HW _ (by exact below_auto)).mono ?_); rintro e w1 ⟨rfl, hb1⟩; obtain ⟨hc1, hf1⟩ := bcell hb1; (try simp only [World.heap_drewN, World.cell?_drewN, World.frozen?_drewN] at hc1 hf1); have hz1 := hb1.size; (try simp at hz1); (try have hy1_0 : w.heap.size < w1.heap.size := by omega); (try have hy1_1 : w.heap.size + 1 < w1.heap.size := by omega); (try have hx1_0 : w.heap.size ≤ w1.heap.size := by omega); (try have hx1_1 : w.heap.size + 1 ≤ w1.heap.size := by omega))
     go_roundw
     case rel => exact ⟨k + 1, by go_num, by rw [← HV.out], by omega, by exact below_auto⟩
     case measure => simp [intOf]; omega
    ·have HV : Hid (x.num = versionV (h.take (k + 1)) key snap) := hid (by rw [HSN.out, HBW.out]; simp [q1])
     go_wp2_with (go_at_call 65; (with_reducible refine (HW _ (by exact below_auto)).mono ?_); rintro e w1 ⟨rfl, hb1⟩; obtain ⟨hc1, hf1⟩ := bcell hb1; (try simp only [World.heap_drewN, World.cell?_drewN, World.frozen?_drewN] at hc1 hf1); have hz1 := hb1.size; (try simp at hz1); (try have hy1_0 : w.heap.size < w1.heap.size := by omega); (try have hy1_1 : w.heap.size + 1 < w1.heap.size := by omega); (try have hx1_0 : w.heap.size ≤ w1.heap.size := by omega); (try have hx1_1 : w.heap.size + 1 ≤ w1.heap.size := by omega))
     go_roundw
     case rel => exact ⟨k + 1, by go_num, by rw [← HV.out], by omega, by exact below_auto⟩
     case measure => simp [intOf]; omega
   ·have HV : Hid (v = versionV (h.take (k + 1)) key snap) := hid (by rw [HSN.out]; simp [q1])
    clear HW
    go_wp2_with fail
    go_roundw
    case rel => exact ⟨k + 1, by go_num, by rw [← HV.out], by omega, by exact below_auto⟩
    case measure => simp [intOf]; omega
  ·obtain rfl : k = n := by omega
   have hge : ¬ (k : Int) < (k : Int) := by omega
   have htk : h.take k = h := by rw [← HN.out]; exact List.take_length
   rw [htk]
   generalize versionV h key snap = v at *
   go_wp2_with fail
   go_ret
   exact ⟨rfl, hbw⟩
end Go.Proofs.YtekmadgacepdfaaGreat.T
