/- Several texts as one: TQ TR. -/
import Derived.Test.YtekmadgacepdfaaGreatMTM
import Derived.Test.YtekmadgacepdfaaGreatUO
namespace Go.Proofs.YtekmadgacepdfaaGreat.T
set_option linter.unusedVariables false
open Go.RowKit Fl Go.Shelf
set_option linter.unusedSimpArgs false

/-- A transaction that reads and writes one key each. -/
def oneD (n snap : Int) (r k : Nat) (B1 B2 : Nat) : DoneV := ⟨n, ⟨1, n, snap, some ⟨B1, 0, none⟩, 1, [r], none, 0, [], some ⟨B2, 0, none⟩, 1, [k]⟩⟩
theorem one_fat {w : World} {B f : Nat} (hf : f < 2 ^ 64) (hB : B < w.heap.size) (hc : w.cell? ⟨B, 0, none⟩ = some (.float .f64 f)) : FAt w (some ⟨B, 0, none⟩) [f] := by
 refine ⟨.inr ⟨B, 0, rfl, hB, fun i hi => ?_⟩, fun i hi => ?_, by show 1 ≤ maxLen; unfold maxLen; omega⟩
 ·have : i = 0 := by have : i < 1 := hi; omega
  subst this; exact hc
 ·have : i = 0 := by have : i < 1 := hi; omega
  subst this; exact hf
theorem nil_sat (w : World) : SAt w none [] := ⟨.inl rfl, fun i hi => absurd hi (Nat.not_lt_zero _), Nat.zero_le _⟩
theorem done_any (n snap : Int) (r k : Nat) (w : World) (hr : r < 2 ^ 64) (hk : k < 2 ^ 64) :
  Calls Tryz.prog 37 #[.int .i64 n, .int .i64 snap, .float .f64 r, .float .f64 k] w fun e w' => ∃ B1 B2, e = .returned (.agg #[.int .i64 n, .int .i64 1, .int .i64 n, .int .i64 snap, .slice (some ⟨B1, 0, none⟩) 1 1, .slice none 0 0, .slice (some ⟨B2, 0, none⟩) 1 1]) ∧ (oneD n snap r k B1 B2).s.At w' ∧ Below w.heap.size w w' := by
 have fin : ∀ W B1 B2, B1 < W.heap.size → B2 < W.heap.size → W.cell? ⟨B1, 0, none⟩ = some (.float .f64 r) → W.cell? ⟨B2, 0, none⟩ = some (.float .f64 k) → (oneD n snap r k B1 B2).s.At W := fun W B1 B2 h1 h2 c1 c2 => ⟨one_fat hr h1 c1, nil_sat W, one_fat hk h2 c2⟩
 have FIN := hid fin
 clear fin
 go_enter Tryz.func37, Tryz.ntmps37
 go_wp2
 refine bodyPost_ret (v := .agg #[.int .i64 n, .int .i64 1, .int .i64 n, .int .i64 snap, .slice (some ⟨w.heap.size + 1, 0, none⟩) 1 1, .slice none 0 0, .slice (some ⟨w.heap.size + 1 + 1, 0, none⟩) 1 1]) (by simp [results, Tryz.results37, go_sem]) rfl ?_
 exact ⟨_, _, rfl, FIN.out _ _ _ (by simp) (by simp) (by simp [go_sem]) (by simp [go_sem]), by (repeat (first | with_reducible exact Below.refl _ _ | ((with_reducible refine Below.alloc1 ?_ ?_ _); (· first | omega | (simp; done) | (simp; omega))) | (with_reducible refine Below.drew ?_) | (with_reducible refine below_drewN' ?_ _) | ((with_reducible refine Below.setCell1 ?_ ?_ _); (· first | omega | (simp; done) | (simp; omega))) | ((with_reducible refine Below.after (by assumption) ?_ ?_); (· first | omega | (simp; done) | (simp; omega)))))⟩
theorem two_hat {w : World} {d1 d2 : DoneV} (h1 : d1.s.At w) (h2 : d2.s.At w) : HAt (w.alloc (.cells (dEnc d1 ++ dEnc d2).toArray 73 (0, 0))) (some ⟨w.heap.size, 0, none⟩) [d1, d2] := by
 have hb : Below w.heap.size w (w.alloc (.cells (dEnc d1 ++ dEnc d2).toArray 73 (0, 0))) := Below.alloc1 (Nat.le_refl _) (Below.refl _ _) _
 refine ⟨.inr ⟨w.heap.size, 0, rfl, by simp, fun i hi t v hv => ?_⟩, fun i hi => ?_, by simp⟩
 ·rw [cell_of_row _ _ _ _ _ (0, 0) (heap_alloc_new w _)]
  have : i = 0 ∨ i = 1 := by have : i < 2 := hi; omega
  rcases this with rfl | rfl
  ·change (dEnc d1)[t]? = some v at hv
   rw [List.getElem?_toArray, List.getElem?_append_left (by have := (List.getElem?_eq_some_iff.1 hv).1; omega)]
   simpa using hv
  ·change (dEnc d2)[t]? = some v at hv
   rw [List.getElem?_toArray, List.getElem?_append_right (by show 7 ≤ _; omega)]
   rw [show 0 + 1 * 7 + t - (dEnc d1).length = t from by show 0 + 1 * 7 + t - 7 = t; omega]
   exact hv
 ·have : i = 0 ∨ i = 1 := by have : i < 2 := hi; omega
  rcases this with rfl | rfl
  ·exact h1.below hb
  ·exact h2.below hb
def badV (a b c d : Nat) : List DoneV := [oneD 1 0 4607182418800017408 4611686018427387904 a b, oneD 2 0 4611686018427387904 4607182418800017408 c d]
def goodV (a b c d : Nat) : List DoneV := [oneD 1 0 4617315517961601024 4607182418800017408 a b, oneD 2 1 4607182418800017408 4618441417868443648 c d]
theorem bad_right (a b c d : Nat) : rightV (badV a b c d) = true := by
 have h : rightV (badV 0 0 0 0) = true := by decide +kernel
 exact h
theorem bad_edges (a b c d : Nat) : edgesV (badV a b c d) = [(1, 2), (2, 1)] := by
 have h : edgesV (badV 0 0 0 0) = [(1, 2), (2, 1)] := by decide +kernel
 exact h
theorem bad_sort (a b c d : Nat) : sortV (badV a b c d) = ([], [1, 2]) := by
 have h : sortV (badV 0 0 0 0) = ([], [1, 2]) := by decide +kernel
 exact h
theorem good_right (a b c d : Nat) : rightV (goodV a b c d) = true := by
 have h : rightV (goodV 0 0 0 0) = true := by decide +kernel
 exact h
theorem good_sort (a b c d : Nat) : sortV (goodV a b c d) = ([1, 2], []) := by
 have h : sortV (goodV 0 0 0 0) = ([1, 2], []) := by decide +kernel
 exact h
theorem good_reads (a b c d : Nat) : readsV (goodV a b c d) [1, 2] = true := by
 have h : readsV (goodV 0 0 0 0) [1, 2] = true := by decide +kernel
 exact h
theorem good_reads2 (a b c d : Nat) : readsV (goodV a b c d) [2, 1] = false := by
 have h : readsV (goodV 0 0 0 0) [2, 1] = false := by decide +kernel
 exact h
theorem nat_zat {w : World} {a : Option Addr} {l : List Int} (h : NAt w a l) : U.ZAt w a l := ⟨h.row, h.len⟩
theorem lit_nat (w : World) (x y : Int) : NAt (w.alloc (.cells #[.int .i64 x, .int .i64 y] 2)) (some ⟨w.heap.size, 0, none⟩) [x, y] := by
 refine ⟨.inr ⟨w.heap.size, 0, rfl, by simp, fun i hi => ?_⟩, by simp [maxLen]⟩
 rw [cell_of_row _ _ _ _ _ (0, 0) (heap_alloc_new w _)]
 have : i = 0 ∨ i = 1 := by have : i < 2 := hi; omega
 rcases this with rfl | rfl <;> rfl
set_option maxHeartbeats 4000000 in
set_option maxRecDepth 100000 in
theorem alive12_any (w : World) : Calls Tryz.prog 25 #[] w (Ret (.bool true) w) := by
 go_enter Tryz.func25, Tryz.ntmps25
 go_wp2_with fail
 refine (done_any 1 0 4607182418800017408 4611686018427387904 w (by omega) (by omega)).mono ?_
 rintro e w1 ⟨A1, A2, rfl, hS1, hb1⟩
 go_wp2_with fail
 refine (done_any 2 0 4611686018427387904 4607182418800017408 w1 (by omega) (by omega)).mono ?_
 rintro e w2 ⟨A3, A4, rfl, hS2, hb2⟩
 have hB := two_hat (d1 := oneD 1 0 4607182418800017408 4611686018427387904 A1 A2) (d2 := oneD 2 0 4611686018427387904 4607182418800017408 A3 A4) (hS1.below hb2) hS2
 have hbz : Below w2.heap.size w2 (w2.alloc (.cells (dEnc (oneD 1 0 4607182418800017408 4611686018427387904 A1 A2) ++ dEnc (oneD 2 0 4611686018427387904 4607182418800017408 A3 A4)).toArray 73 (0, 0))) := Below.alloc1 (Nat.le_refl _) (Below.refl _ _) _
 have HB := hid hB
 have hbw2 := (hb1.trans (hb2.mono hb1.size)).trans (hbz.mono (Nat.le_trans hb1.size hb2.size))
 clear hS1 hS2 hB hbz hb1 hb2
 go_upto_region 2 with fail
 have hW : w2.alloc (.cells (dEnc (oneD 1 0 4607182418800017408 4611686018427387904 A1 A2) ++ dEnc (oneD 2 0 4611686018427387904 4607182418800017408 A3 A4)).toArray 73 (0, 0)) = w2.alloc (.cells #[.int .i64 1, .int .i64 1, .int .i64 1, .int .i64 0, .slice (some ⟨A1, 0, none⟩) 1 1, .slice none 0 0, .slice (some ⟨A2, 0, none⟩) 1 1, .int .i64 2, .int .i64 1, .int .i64 2, .int .i64 0, .slice (some ⟨A3, 0, none⟩) 1 1, .slice none 0 0, .slice (some ⟨A4, 0, none⟩) 1 1] 73) := rfl
 rw [hW] at HB hbw2
 clear hW
 generalize w2.alloc (.cells #[.int .i64 1, .int .i64 1, .int .i64 1, .int .i64 0, .slice (some ⟨A1, 0, none⟩) 1 1, .slice none 0 0, .slice (some ⟨A2, 0, none⟩) 1 1, .int .i64 2, .int .i64 1, .int .i64 2, .int .i64 0, .slice (some ⟨A3, 0, none⟩) 1 1, .slice none 0 0, .slice (some ⟨A4, 0, none⟩) 1 1] 73) = w3 at *
 generalize w2.heap.size = P1 at *
 have hsz3 := hbw2.size
 go_wp2_with fail
 refine (done_any 1 0 4617315517961601024 4607182418800017408 w3 (by omega) (by omega)).mono ?_
 rintro e w4 ⟨C1, C2, rfl, hS1, hb1⟩
 go_wp2_with fail
 refine (done_any 2 1 4607182418800017408 4618441417868443648 w4 (by omega) (by omega)).mono ?_
 rintro e w5 ⟨C3, C4, rfl, hS2, hb2⟩
 have hG := two_hat (d1 := oneD 1 0 4617315517961601024 4607182418800017408 C1 C2) (d2 := oneD 2 1 4607182418800017408 4618441417868443648 C3 C4) (hS1.below hb2) hS2
 have hbz : Below w5.heap.size w5 (w5.alloc (.cells (dEnc (oneD 1 0 4617315517961601024 4607182418800017408 C1 C2) ++ dEnc (oneD 2 1 4607182418800017408 4618441417868443648 C3 C4)).toArray 73 (0, 0))) := Below.alloc1 (Nat.le_refl _) (Below.refl _ _) _
 have hb35 := (hb1.trans (hb2.mono hb1.size)).trans (hbz.mono (Nat.le_trans hb1.size hb2.size))
 have HG := hid hG
 clear hS1 hS2 hG hbz hb1 hb2
 go_upto_region 3 with fail
 have hW : w5.alloc (.cells (dEnc (oneD 1 0 4617315517961601024 4607182418800017408 C1 C2) ++ dEnc (oneD 2 1 4607182418800017408 4618441417868443648 C3 C4)).toArray 73 (0, 0)) = w5.alloc (.cells #[.int .i64 1, .int .i64 1, .int .i64 1, .int .i64 0, .slice (some ⟨C1, 0, none⟩) 1 1, .slice none 0 0, .slice (some ⟨C2, 0, none⟩) 1 1, .int .i64 2, .int .i64 1, .int .i64 2, .int .i64 1, .slice (some ⟨C3, 0, none⟩) 1 1, .slice none 0 0, .slice (some ⟨C4, 0, none⟩) 1 1] 73) := rfl
 rw [hW] at HG hb35
 clear hW
 generalize w5.alloc (.cells #[.int .i64 1, .int .i64 1, .int .i64 1, .int .i64 0, .slice (some ⟨C1, 0, none⟩) 1 1, .slice none 0 0, .slice (some ⟨C2, 0, none⟩) 1 1, .int .i64 2, .int .i64 1, .int .i64 2, .int .i64 1, .slice (some ⟨C3, 0, none⟩) 1 1, .slice none 0 0, .slice (some ⟨C4, 0, none⟩) 1 1] 73) = w6 at *
 generalize w5.heap.size = P2 at *
 have hbw6 := hbw2.trans (hb35.mono hsz3)
 have HB6 := hid (HB.out.below hb35)
 have hsz6 := hbw6.size
 clear hbw2 hb35 HB
 -- the program's answers
 have eB : [oneD 1 0 4607182418800017408 4611686018427387904 A1 A2, oneD 2 0 4611686018427387904 4607182418800017408 A3 A4] = badV A1 A2 A3 A4 := rfl
 have eG : [oneD 1 0 4617315517961601024 4607182418800017408 C1 C2, oneD 2 1 4607182418800017408 4618441417868443648 C3 C4] = goodV C1 C2 C3 C4 := rfl
 rw [eB] at HB6
 rw [eG] at HG
 have HE := hid fun W (hw : Below w6.heap.size w6 W) => by have := edges_any (some ⟨P1, 0, none⟩) 2 2 _ W rfl (Nat.le_refl _) (HB6.out.below hw); rw [bad_edges] at this; exact this
 have HOB := hid fun W (hw : Below w6.heap.size w6 W) => by have := order_any (some ⟨P1, 0, none⟩) 2 2 _ W rfl (Nat.le_refl _) (HB6.out.below hw); rw [show ordV (badV A1 A2 A3 A4) = ([], false) by unfold ordV; rw [bad_sort, if_neg (by simp)]] at this; exact this
 have HOG := hid fun W (hw : Below w6.heap.size w6 W) => by have := order_any (some ⟨P2, 0, none⟩) 2 2 _ W rfl (Nat.le_refl _) (HG.out.below hw); rw [show ordV (goodV C1 C2 C3 C4) = ([1, 2], true) by unfold ordV; rw [good_sort, good_right, if_pos ⟨rfl, rfl⟩]] at this; exact this
 have HRB := hid fun W (hw : Below w6.heap.size w6 W) => right_any (some ⟨P1, 0, none⟩) 2 2 _ true W rfl (Nat.le_refl _) (HB6.out.below hw) (bad_right A1 A2 A3 A4)
 have HST := hid fun W (hw : Below w6.heap.size w6 W) => by have := stuck_any (some ⟨P1, 0, none⟩) 2 2 _ W rfl (Nat.le_refl _) (HB6.out.below hw); rw [bad_sort] at this; exact this
 have HR1 := hid fun ao co W (ho : NAt W ao [1, 2]) (hw : Below w6.heap.size w6 W) => reads_any (some ⟨P2, 0, none⟩) ao 2 co 2 2 _ [1, 2] true W rfl (Nat.le_refl _) (HG.out.below hw) rfl (by omega) ho (good_reads C1 C2 C3 C4)
 have HR2 := hid fun ao co W (ho : NAt W ao [2, 1]) (hw : Below w6.heap.size w6 W) => reads_any (some ⟨P2, 0, none⟩) ao 2 co 2 2 _ [2, 1] false W rfl (Nat.le_refl _) (HG.out.below hw) rfl (by omega) ho (good_reads2 C1 C2 C3 C4)
 clear eB eG HB6 HG
 go_wp2_with fail
 refine (HE.out w6 (Below.refl _ _)).mono ?_
 rintro e w7 ⟨ae, ce, rfl, hE, hb7⟩
 have HE7 := hid hE
 clear hE
 go_wp2_with fail
 refine (HOB.out w7 hb7).mono ?_
 rintro e w8 ⟨a8, c8, rfl, -, hb8⟩
 have hb68 := hb7.trans (hb8.mono hb7.size)
 have HE8 := hid (own_keep HE7.out fun q cur _ hq => hb8.block q (Array.getElem?_eq_some_iff.1 hq).1)
 clear HE7 hb7 hb8
 go_wp2_with fail
 refine (HOG.out w8 hb68).mono ?_
 rintro e w9 ⟨a9, c9, rfl, hO9, hb9⟩
 have hb69 := hb68.trans (hb9.mono hb68.size)
 have hE9 := own_keep HE8.out fun q cur _ hq => hb9.block q (Array.getElem?_eq_some_iff.1 hq).1
 have HN9 := hid (own_nat (n := 2) rfl hO9 (by unfold maxLen; omega))
 rcases hE9.2 with ⟨_, h2⟩ | ⟨g, cap, cur, h1, -⟩
 ·simp at h2
 injection h1 with ha _ hcap
 subst ha
 have q0 := hE9.cells (g := g) rfl 0 (.int .i64 1) rfl
 have q1 := hE9.cells (g := g) rfl 1 (.int .i64 2) rfl
 have q2 := hE9.cells (g := g) rfl 2 (.int .i64 2) rfl
 have q3 := hE9.cells (g := g) rfl 3 (.int .i64 1) rfl
 rw [K.addr0] at q0 q1 q2 q3
 have hgl := (hE9.lt g rfl).2
 have hbw9 := hbw6.trans (hb69.mono hsz6)
 have hsz9 := hbw9.size
 have HZ := hid fun a1 c1 a2 c2 W (h1 : NAt W a1 [1, 2]) (h2 : NAt W a2 [1, 2]) => U.sameZ_any a1 a2 c1 c2 2 2 [1, 2] [1, 2] true W rfl rfl (nat_zat h1) (nat_zat h2) (by simp)
 clear hb68 HE8 hb9 hE9 hO9 HE HOB HOG hcap hbw6
 go_upto_region 6 with fail
 go_wp2_with fail
 refine (HRB.out w9 hb69).mono ?_
 rintro e w10 ⟨rfl, hb10⟩
 have hb6A := hb69.trans (hb10.mono hb69.size)
 have hszA := hb10.size
 have r0 := (hb10.cell (p := ⟨g, 0, none⟩) hgl).trans q0
 have r1 := (hb10.cell (p := ⟨g, 1, none⟩) hgl).trans q1
 have r2 := (hb10.cell (p := ⟨g, 2, none⟩) hgl).trans q2
 have r3 := (hb10.cell (p := ⟨g, 3, none⟩) hgl).trans q3
 have hgA : g < w10.heap.size := by omega
 have HNA := hid (HN9.out.below hb10)
 have hbwA := hbw9.trans (hb10.mono hsz9)
 clear q0 q1 q2 q3 hgl hb10 hb69 HN9 hbw9 hsz9
 have hszA2 := hbwA.size
 go_wp2_with fail
 refine (HST.out w10 hb6A).mono ?_
 rintro e w11 ⟨aS, cS, rfl, hOS, hbS⟩
 have HNS := hid (own_nat (n := 2) rfl hOS (by unfold maxLen; omega))
 have HNB := hid (HNA.out.below hbS)
 have hb6B := hb6A.trans (hbS.mono hb6A.size)
 have hbwB := hbwA.trans (hbS.mono hszA2)
 have hszB := hbwB.size
 clear hOS hbS hb6A hbwA hszA2 r0 r1 r2 r3 hgA HNA hszA
 have hl1 : Below w11.heap.size w11 (w11.alloc (.cells #[.int .i64 1, .int .i64 2] 2)) := Below.alloc1 (Nat.le_refl _) (Below.refl _ _) _
 go_wp2_with fail
 refine (HZ.out aS cS (some ⟨w11.heap.size, 0, none⟩) 2 _ (HNS.out.below hl1) (lit_nat w11 1 2)).mono ?_
 rintro e w12 ⟨rfl, hb12⟩
 have HNC := hid ((HNB.out.below hl1).below hb12)
 have hb6C := (hb6B.trans (hl1.mono hb6B.size)).trans (hb12.mono (Nat.le_trans hb6B.size hl1.size))
 have hbwC := (hbwB.trans (hl1.mono hszB)).trans (hb12.mono (Nat.le_trans hszB hl1.size))
 have hszC := hbwC.size
 clear hl1 hb12 hb6B hbwB HNB HNS hszB
 have hl2 : Below w12.heap.size w12 (w12.alloc (.cells #[.int .i64 1, .int .i64 2] 2)) := Below.alloc1 (Nat.le_refl _) (Below.refl _ _) _
 go_wp2_with fail
 refine (HZ.out a9 c9 (some ⟨w12.heap.size, 0, none⟩) 2 _ (HNC.out.below hl2) (lit_nat w12 1 2)).mono ?_
 rintro e w13 ⟨rfl, hb13⟩
 have HND := hid ((HNC.out.below hl2).below hb13)
 have hb6D := (hb6C.trans (hl2.mono hb6C.size)).trans (hb13.mono (Nat.le_trans hb6C.size hl2.size))
 have hbwD := (hbwC.trans (hl2.mono hszC)).trans (hb13.mono (Nat.le_trans hszC hl2.size))
 have hszD := hbwD.size
 clear hl2 hb13 hb6C hbwC HNC hszC
 go_wp2_with fail
 refine (HR1.out a9 c9 w13 HND.out hb6D).mono ?_
 rintro e w14 ⟨rfl, hb14⟩
 have hb6E := hb6D.trans (hb14.mono hb6D.size)
 have hbwE := hbwD.trans (hb14.mono hszD)
 have hszE := hbwE.size
 clear hb14 hb6D hbwD HND hszD
 have hl3 : Below w14.heap.size w14 (w14.alloc (.cells #[.int .i64 2, .int .i64 1] 2)) := Below.alloc1 (Nat.le_refl _) (Below.refl _ _) _
 go_wp2_with fail
 refine (HR2.out (some ⟨w14.heap.size, 0, none⟩) 2 _ (lit_nat w14 2 1) (hb6E.trans (hl3.mono hb6E.size))).mono ?_
 rintro e w15 ⟨rfl, hb15⟩
 have hfin := (hbwE.trans (hl3.mono hszE)).trans (hb15.mono (Nat.le_trans hszE hl3.size))
 go_wp2_with fail
 go_ret
 exact ⟨rfl, hfin⟩
end Go.Proofs.YtekmadgacepdfaaGreat.T
namespace Go.Proofs.YtekmadgacepdfaaGreat.T
set_option linter.unusedVariables false
open Go.RowKit Fl Go.Shelf
set_option linter.unusedSimpArgs false

theorem few_any (a : Option Addr) (c n : Nat) (w : World) (hcap : n ≤ c) (h42 : n ≤ 4398046511104) :
  Calls Tryz.prog 26 #[.slice a n c] w fun e w' => ∃ a', e = .returned (.slice a' (min n 65) c) ∧ (a' = a ∨ n = 0) ∧ w = w' := by
 by_cases h65 : 65 < n
 ·have h1 : (65 : Int) < (n : Int) := by omega
  have h2 : 65 ≤ c := by omega
  have h3 : min n 65 = 65 := by omega
  rw [h3]
  clear h3
  go_enter Tryz.func26, Tryz.ntmps26
  go_wp2
  all_goals
   go_ret
   exact ⟨_, rfl, .inl rfl, rfl⟩
 ·have h1 : ¬ (65 : Int) < (n : Int) := by omega
  have h3 : min n 65 = n := by omega
  rw [h3]
  clear h3
  go_enter Tryz.func26, Tryz.ntmps26
  go_wp2
  go_ret
  exact ⟨_, rfl, .inl rfl, rfl⟩
/-- The history in use. -/
theorem few_hat {w : World} {a a' : Option Addr} {h : List DoneV} (hh : HAt w a h) (ha : a' = a ∨ h.length = 0) : HAt w a' (h.take 65) ∧ (h.take 65).length = min h.length 65 := by
 refine ⟨?_, by rw [List.length_take]; omega⟩
 rcases ha with rfl | h0
 ·exact hh.take 65
 ·have : h = [] := List.eq_nil_of_length_eq_zero h0
  subst this
  exact ⟨.inl rfl, fun i hi => by simp at hi, by simp⟩
end Go.Proofs.YtekmadgacepdfaaGreat.T
