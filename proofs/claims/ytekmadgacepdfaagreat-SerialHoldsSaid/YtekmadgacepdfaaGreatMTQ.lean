/- Several texts as one: TQ TR TW. -/
import Derived.Test.YtekmadgacepdfaaGreatMTV
import Derived.Test.YtekmadgacepdfaaGreatUO
namespace Go.Proofs.YtekmadgacepdfaaGreat.T
set_option linter.unusedVariables false
open Go.RowKit Fl Go.Shelf
set_option linter.unusedSimpArgs false

/-- A transaction that reads and writes one key each. -/
def oneD (n snap : Int) (r k : Nat) (B1 B2 : Nat) : DoneV := ⟨n, ⟨1, n, snap, some ⟨B1, 0, none⟩, 1, [r], none, 0, [], some ⟨B2, 0, none⟩, 1, [k]⟩⟩
theorem one_fat {w : World} {B f : Nat} (hf : f < 2 ^ 64) (hB : B < w.heap.size) (hc : w.cell? ⟨B, 0, none⟩ = some (.float .f64 f)) : FAt w (some ⟨B, 0, none⟩) [f] := by
 refine ⟨.inr ⟨B, 0, rfl, hB, fun i hi => ?_⟩, fun i hi => ?_, by show 1 ≤ maxLen; unfold maxLen; omega⟩
 ·have : i = 0 := by have : i < 1 := hi; omega
  subst this; exact hc
 ·have : i = 0 := by have : i < 1 := hi; omega
  subst this; exact hf
theorem nil_sat (w : World) : SAt w none [] := ⟨.inl rfl, fun i hi => absurd hi (Nat.not_lt_zero _), Nat.zero_le _⟩
theorem done_any (n snap : Int) (r k : Nat) (w : World) (hr : r < 2 ^ 64) (hk : k < 2 ^ 64) :
  Calls Tryz.prog 37 #[.int .i64 n, .int .i64 snap, .float .f64 r, .float .f64 k] w fun e w' => ∃ B1 B2, e = .returned (.agg #[.int .i64 n, .int .i64 1, .int .i64 n, .int .i64 snap, .slice (some ⟨B1, 0, none⟩) 1 1, .slice none 0 0, .slice (some ⟨B2, 0, none⟩) 1 1]) ∧ (oneD n snap r k B1 B2).s.At w' ∧ Below w.heap.size w w' := by
 have fin : ∀ W B1 B2, B1 < W.heap.size → B2 < W.heap.size → W.cell? ⟨B1, 0, none⟩ = some (.float .f64 r) → W.cell? ⟨B2, 0, none⟩ = some (.float .f64 k) → (oneD n snap r k B1 B2).s.At W := fun W B1 B2 h1 h2 c1 c2 => ⟨one_fat hr h1 c1, nil_sat W, one_fat hk h2 c2⟩
 have FIN := hid fin
 clear fin
 go_enter Tryz.func37, Tryz.ntmps37
 go_wp2
 refine bodyPost_ret (v := .agg #[.int .i64 n, .int .i64 1, .int .i64 n, .int .i64 snap, .slice (some ⟨w.heap.size + 1, 0, none⟩) 1 1, .slice none 0 0, .slice (some ⟨w.heap.size + 1 + 1, 0, none⟩) 1 1]) (by simp [results, Tryz.results37, go_sem]) rfl ?_
 exact ⟨_, _, rfl, FIN.out _ _ _ (by simp) (by simp) (by simp [go_sem]) (by simp [go_sem]), by (repeat (first | with_reducible exact Below.refl _ _ | ((with_reducible refine Below.alloc1 ?_ ?_ _); (· first | omega | (simp; done) | (simp; omega))) | (with_reducible refine Below.drew ?_) | (with_reducible refine below_drewN' ?_ _) | ((with_reducible refine Below.setCell1 ?_ ?_ _); (· first | omega | (simp; done) | (simp; omega))) | ((with_reducible refine Below.after (by assumption) ?_ ?_); (· first | omega | (simp; done) | (simp; omega)))))⟩
theorem two_hat {w : World} {d1 d2 : DoneV} (h1 : d1.s.At w) (h2 : d2.s.At w) : HAt (w.alloc (.cells (dEnc d1 ++ dEnc d2).toArray 73 (0, 0))) (some ⟨w.heap.size, 0, none⟩) [d1, d2] := by
 have hb : Below w.heap.size w (w.alloc (.cells (dEnc d1 ++ dEnc d2).toArray 73 (0, 0))) := Below.alloc1 (Nat.le_refl _) (Below.refl _ _) _
 refine ⟨.inr ⟨w.heap.size, 0, rfl, by simp, fun i hi t v hv => ?_⟩, fun i hi => ?_, by simp⟩
 ·rw [cell_of_row _ _ _ _ _ (0, 0) (heap_alloc_new w _)]
  have : i = 0 ∨ i = 1 := by have : i < 2 := hi; omega
  rcases this with rfl | rfl
  ·change (dEnc d1)[t]? = some v at hv
   rw [List.getElem?_toArray, List.getElem?_append_left (by have := (List.getElem?_eq_some_iff.1 hv).1; omega)]
   simpa using hv
  ·change (dEnc d2)[t]? = some v at hv
   rw [List.getElem?_toArray, List.getElem?_append_right (by show 7 ≤ _; omega)]
   rw [show 0 + 1 * 7 + t - (dEnc d1).length = t from by show 0 + 1 * 7 + t - 7 = t; omega]
   exact hv
 ·have : i = 0 ∨ i = 1 := by have : i < 2 := hi; omega
  rcases this with rfl | rfl
  ·exact h1.below hb
  ·exact h2.below hb
def badV (a b c d : Nat) : List DoneV := [oneD 1 0 4607182418800017408 4611686018427387904 a b, oneD 2 0 4611686018427387904 4607182418800017408 c d]
def goodV (a b c d : Nat) : List DoneV := [oneD 1 0 4617315517961601024 4607182418800017408 a b, oneD 2 1 4607182418800017408 4618441417868443648 c d]
theorem bad_right (a b c d : Nat) : rightV (badV a b c d) = true := by
 have h : rightV (badV 0 0 0 0) = true := by decide +kernel
 exact h
theorem bad_edges (a b c d : Nat) : edgesV (badV a b c d) = [(1, 2), (2, 1)] := by
 have h : edgesV (badV 0 0 0 0) = [(1, 2), (2, 1)] := by decide +kernel
 exact h
theorem bad_sort (a b c d : Nat) : sortV (badV a b c d) = ([], [1, 2]) := by
 have h : sortV (badV 0 0 0 0) = ([], [1, 2]) := by decide +kernel
 exact h
theorem good_right (a b c d : Nat) : rightV (goodV a b c d) = true := by
 have h : rightV (goodV 0 0 0 0) = true := by decide +kernel
 exact h
theorem good_sort (a b c d : Nat) : sortV (goodV a b c d) = ([1, 2], []) := by
 have h : sortV (goodV 0 0 0 0) = ([1, 2], []) := by decide +kernel
 exact h
theorem good_reads (a b c d : Nat) : readsV (goodV a b c d) [1, 2] = true := by
 have h : readsV (goodV 0 0 0 0) [1, 2] = true := by decide +kernel
 exact h
theorem good_reads2 (a b c d : Nat) : readsV (goodV a b c d) [2, 1] = false := by
 have h : readsV (goodV 0 0 0 0) [2, 1] = false := by decide +kernel
 exact h
theorem nat_zat {w : World} {a : Option Addr} {l : List Int} (h : NAt w a l) : U.ZAt w a l := ⟨h.row, h.len⟩
theorem lit_nat (w : World) (x y : Int) : NAt (w.alloc (.cells #[.int .i64 x, .int .i64 y] 2)) (some ⟨w.heap.size, 0, none⟩) [x, y] := by
 refine ⟨.inr ⟨w.heap.size, 0, rfl, by simp, fun i hi => ?_⟩, by simp [maxLen]⟩
 rw [cell_of_row _ _ _ _ _ (0, 0) (heap_alloc_new w _)]
 have : i = 0 ∨ i = 1 := by have : i < 2 := hi; omega
 rcases this with rfl | rfl <;> rfl
set_option maxHeartbeats 4000000 in
set_option maxRecDepth 100000 in
theorem alive12_any (w : World) : Calls Tryz.prog 25 #[] w (Ret (.bool true) w) := by
 go_enter Tryz.func25, Tryz.ntmps25
 go_wp2_with fail
 refine (done_any 1 0 4607182418800017408 4611686018427387904 w (by omega) (by omega)).mono ?_
 rintro e w1 ⟨A1, A2, rfl, hS1, hb1⟩
 go_wp2_with fail
 refine (done_any 2 0 4611686018427387904 4607182418800017408 w1 (by omega) (by omega)).mono ?_
 rintro e w2 ⟨A3, A4, rfl, hS2, hb2⟩
 have hB := two_hat (d1 := oneD 1 0 4607182418800017408 4611686018427387904 A1 A2) (d2 := oneD 2 0 4611686018427387904 4607182418800017408 A3 A4) (hS1.below hb2) hS2
 have hbz : Below w2.heap.size w2 (w2.alloc (.cells (dEnc (oneD 1 0 4607182418800017408 4611686018427387904 A1 A2) ++ dEnc (oneD 2 0 4611686018427387904 4607182418800017408 A3 A4)).toArray 73 (0, 0))) := Below.alloc1 (Nat.le_refl _) (Below.refl _ _) _
 have HB := hid hB
 have hbw2 := (hb1.trans (hb2.mono hb1.size)).trans (hbz.mono (Nat.le_trans hb1.size hb2.size))
 clear hS1 hS2 hB hbz hb1 hb2
 go_upto_region 2 with fail
 have hW : w2.alloc (.cells (dEnc (oneD 1 0 4607182418800017408 4611686018427387904 A1 A2) ++ dEnc (oneD 2 0 4611686018427387904 4607182418800017408 A3 A4)).toArray 73 (0, 0)) = w2.alloc (.cells #[.int .i64 1, .int .i64 1, .int .i64 1, .int .i64 0, .slice (some ⟨A1, 0, none⟩) 1 1, .slice none 0 0, .slice (some ⟨A2, 0, none⟩) 1 1, .int .i64 2, .int .i64 1, .int .i64 2, .int .i64 0, .slice (some ⟨A3, 0, none⟩) 1 1, .slice none 0 0, .slice (some ⟨A4, 0, none⟩) 1 1] 73) := rfl
 rw [hW] at HB hbw2
 clear hW
 generalize w2.alloc (.cells #[.int .i64 1, .int .i64 1, .int .i64 1, .int .i64 0, .slice (some ⟨A1, 0, none⟩) 1 1, .slice none 0 0, .slice (some ⟨A2, 0, none⟩) 1 1, .int .i64 2, .int .i64 1, .int .i64 2, .int .i64 0, .slice (some ⟨A3, 0, none⟩) 1 1, .slice none 0 0, .slice (some ⟨A4, 0, none⟩) 1 1] 73) = w3 at *
 generalize w2.heap.size = P1 at *
 have hsz3 := hbw2.size
 go_wp2_with fail
 refine (done_any 1 0 4617315517961601024 4607182418800017408 w3 (by omega) (by omega)).mono ?_
 rintro e w4 ⟨C1, C2, rfl, hS1, hb1⟩
 go_wp2_with fail
 refine (done_any 2 1 4607182418800017408 4618441417868443648 w4 (by omega) (by omega)).mono ?_
 rintro e w5 ⟨C3, C4, rfl, hS2, hb2⟩
 have hG := two_hat (d1 := oneD 1 0 4617315517961601024 4607182418800017408 C1 C2) (d2 := oneD 2 1 4607182418800017408 4618441417868443648 C3 C4) (hS1.below hb2) hS2
 have hbz : Below w5.heap.size w5 (w5.alloc (.cells (dEnc (oneD 1 0 4617315517961601024 4607182418800017408 C1 C2) ++ dEnc (oneD 2 1 4607182418800017408 4618441417868443648 C3 C4)).toArray 73 (0, 0))) := Below.alloc1 (Nat.le_refl _) (Below.refl _ _) _
 have hb35 := (hb1.trans (hb2.mono hb1.size)).trans (hbz.mono (Nat.le_trans hb1.size hb2.size))
 have HG := hid hG
 clear hS1 hS2 hG hbz hb1 hb2
 go_upto_region 3 with fail
 have hW : w5.alloc (.cells (dEnc (oneD 1 0 4617315517961601024 4607182418800017408 C1 C2) ++ dEnc (oneD 2 1 4607182418800017408 4618441417868443648 C3 C4)).toArray 73 (0, 0)) = w5.alloc (.cells #[.int .i64 1, .int .i64 1, .int .i64 1, .int .i64 0, .slice (some ⟨C1, 0, none⟩) 1 1, .slice none 0 0, .slice (some ⟨C2, 0, none⟩) 1 1, .int .i64 2, .int .i64 1, .int .i64 2, .int .i64 1, .slice (some ⟨C3, 0, none⟩) 1 1, .slice none 0 0, .slice (some ⟨C4, 0, none⟩) 1 1] 73) := rfl
 rw [hW] at HG hb35
 clear hW
 generalize w5.alloc (.cells #[.int .i64 1, .int .i64 1, .int .i64 1, .int .i64 0, .slice (some ⟨C1, 0, none⟩) 1 1, .slice none 0 0, .slice (some ⟨C2, 0, none⟩) 1 1, .int .i64 2, .int .i64 1, .int .i64 2, .int .i64 1, .slice (some ⟨C3, 0, none⟩) 1 1, .slice none 0 0, .slice (some ⟨C4, 0, none⟩) 1 1] 73) = w6 at *
 generalize w5.heap.size = P2 at *
 have hbw6 := hbw2.trans (hb35.mono hsz3)
 have HB6 := hid (HB.out.below hb35)
 have hsz6 := hbw6.size
 clear hbw2 hb35 HB
 -- the program's answers
 have eB : [oneD 1 0 4607182418800017408 4611686018427387904 A1 A2, oneD 2 0 4611686018427387904 4607182418800017408 A3 A4] = badV A1 A2 A3 A4 := rfl
 have eG : [oneD 1 0 4617315517961601024 4607182418800017408 C1 C2, oneD 2 1 4607182418800017408 4618441417868443648 C3 C4] = goodV C1 C2 C3 C4 := rfl
 rw [eB] at HB6
 rw [eG] at HG
 have HE := hid fun W (hw : Below w6.heap.size w6 W) => by have := edges_any (some ⟨P1, 0, none⟩) 2 2 _ W rfl (Nat.le_refl _) (HB6.out.below hw); rw [bad_edges] at this; exact this
 have HOB := hid fun W (hw : Below w6.heap.size w6 W) => by have := order_any (some ⟨P1, 0, none⟩) 2 2 _ W rfl (Nat.le_refl _) (HB6.out.below hw); rw [show ordV (badV A1 A2 A3 A4) = ([], false) by unfold ordV; rw [bad_sort, if_neg (by simp)]] at this; exact this
 have HOG := hid fun W (hw : Below w6.heap.size w6 W) => by have := order_any (some ⟨P2, 0, none⟩) 2 2 _ W rfl (Nat.le_refl _) (HG.out.below hw); rw [show ordV (goodV C1 C2 C3 C4) = ([1, 2], true) by unfold ordV; rw [good_sort, good_right, if_pos ⟨rfl, rfl⟩]] at this; exact this
 have HRB := hid fun W (hw : Below w6.heap.size w6 W) => right_any (some ⟨P1, 0, none⟩) 2 2 _ true W rfl (Nat.le_refl _) (HB6.out.below hw) (bad_right A1 A2 A3 A4)
 have HST := hid fun W (hw : Below w6.heap.size w6 W) => by have := stuck_any (some ⟨P1, 0, none⟩) 2 2 _ W rfl (Nat.le_refl _) (HB6.out.below hw); rw [bad_sort] at this; exact this
 have HR1 := hid fun ao co W (ho : NAt W ao [1, 2]) (hw : Below w6.heap.size w6 W) => reads_any (some ⟨P2, 0, none⟩) ao 2 co 2 2 _ [1, 2] true W rfl (Nat.le_refl _) (HG.out.below hw) rfl (by omega) ho (good_reads C1 C2 C3 C4)
 have HR2 := hid fun ao co W (ho : NAt W ao [2, 1]) (hw : Below w6.heap.size w6 W) => reads_any (some ⟨P2, 0, none⟩) ao 2 co 2 2 _ [2, 1] false W rfl (Nat.le_refl _) (HG.out.below hw) rfl (by omega) ho (good_reads2 C1 C2 C3 C4)
 clear eB eG HB6 HG
 go_wp2_with fail
 refine (HE.out w6 (Below.refl _ _)).mono ?_
 rintro e w7 ⟨ae, ce, rfl, hE, hb7⟩
 have HE7 := hid hE
 clear hE
 go_wp2_with fail
 refine (HOB.out w7 hb7).mono ?_
 rintro e w8 ⟨a8, c8, rfl, -, hb8⟩
 have hb68 := hb7.trans (hb8.mono hb7.size)
 have HE8 := hid (own_keep HE7.out fun q cur _ hq => hb8.block q (Array.getElem?_eq_some_iff.1 hq).1)
 clear HE7 hb7 hb8
 go_wp2_with fail
 refine (HOG.out w8 hb68).mono ?_
 rintro e w9 ⟨a9, c9, rfl, hO9, hb9⟩
 have hb69 := hb68.trans (hb9.mono hb68.size)
 have hE9 := own_keep HE8.out fun q cur _ hq => hb9.block q (Array.getElem?_eq_some_iff.1 hq).1
 have HN9 := hid (own_nat (n := 2) rfl hO9 (by unfold maxLen; omega))
 rcases hE9.2 with ⟨_, h2⟩ | ⟨g, cap, cur, h1, -⟩
 ·simp at h2
 injection h1 with ha _ hcap
 subst ha
 have q0 := hE9.cells (g := g) rfl 0 (.int .i64 1) rfl
 have q1 := hE9.cells (g := g) rfl 1 (.int .i64 2) rfl
 have q2 := hE9.cells (g := g) rfl 2 (.int .i64 2) rfl
 have q3 := hE9.cells (g := g) rfl 3 (.int .i64 1) rfl
 rw [K.addr0] at q0 q1 q2 q3
 have hgl := (hE9.lt g rfl).2
 have hbw9 := hbw6.trans (hb69.mono hsz6)
 have hsz9 := hbw9.size
 have HZ := hid fun a1 c1 a2 c2 W (h1 : NAt W a1 [1, 2]) (h2 : NAt W a2 [1, 2]) => U.sameZ_any a1 a2 c1 c2 2 2 [1, 2] [1, 2] true W rfl rfl (nat_zat h1) (nat_zat h2) (by simp)
 clear hb68 HE8 hb9 hE9 hO9 HE HOB HOG hcap hbw6
 go_upto_region 6 with fail
 go_wp2_with fail
 refine (HRB.out w9 hb69).mono ?_
 rintro e w10 ⟨rfl, hb10⟩
 have hb6A := hb69.trans (hb10.mono hb69.size)
 have hszA := hb10.size
 have r0 := (hb10.cell (p := ⟨g, 0, none⟩) hgl).trans q0
 have r1 := (hb10.cell (p := ⟨g, 1, none⟩) hgl).trans q1
 have r2 := (hb10.cell (p := ⟨g, 2, none⟩) hgl).trans q2
 have r3 := (hb10.cell (p := ⟨g, 3, none⟩) hgl).trans q3
 have hgA : g < w10.heap.size := by omega
 have HNA := hid (HN9.out.below hb10)
 have hbwA := hbw9.trans (hb10.mono hsz9)
 clear q0 q1 q2 q3 hgl hb10 hb69 HN9 hbw9 hsz9
 have hszA2 := hbwA.size
 go_wp2_with fail
 refine (HST.out w10 hb6A).mono ?_
 rintro e w11 ⟨aS, cS, rfl, hOS, hbS⟩
 have HNS := hid (own_nat (n := 2) rfl hOS (by unfold maxLen; omega))
 have HNB := hid (HNA.out.below hbS)
 have hb6B := hb6A.trans (hbS.mono hb6A.size)
 have hbwB := hbwA.trans (hbS.mono hszA2)
 have hszB := hbwB.size
 clear hOS hbS hb6A hbwA hszA2 r0 r1 r2 r3 hgA HNA hszA
 have hl1 : Below w11.heap.size w11 (w11.alloc (.cells #[.int .i64 1, .int .i64 2] 2)) := Below.alloc1 (Nat.le_refl _) (Below.refl _ _) _
 go_wp2_with fail
 refine (HZ.out aS cS (some ⟨w11.heap.size, 0, none⟩) 2 _ (HNS.out.below hl1) (lit_nat w11 1 2)).mono ?_
 rintro e w12 ⟨rfl, hb12⟩
 have HNC := hid ((HNB.out.below hl1).below hb12)
 have hb6C := (hb6B.trans (hl1.mono hb6B.size)).trans (hb12.mono (Nat.le_trans hb6B.size hl1.size))
 have hbwC := (hbwB.trans (hl1.mono hszB)).trans (hb12.mono (Nat.le_trans hszB hl1.size))
 have hszC := hbwC.size
 clear hl1 hb12 hb6B hbwB HNB HNS hszB
 have hl2 : Below w12.heap.size w12 (w12.alloc (.cells #[.int .i64 1, .int .i64 2] 2)) := Below.alloc1 (Nat.le_refl _) (Below.refl _ _) _
 go_wp2_with fail
 refine (HZ.out a9 c9 (some ⟨w12.heap.size, 0, none⟩) 2 _ (HNC.out.below hl2) (lit_nat w12 1 2)).mono ?_
 rintro e w13 ⟨rfl, hb13⟩
 have HND := hid ((HNC.out.below hl2).below hb13)
 have hb6D := (hb6C.trans (hl2.mono hb6C.size)).trans (hb13.mono (Nat.le_trans hb6C.size hl2.size))
 have hbwD := (hbwC.trans (hl2.mono hszC)).trans (hb13.mono (Nat.le_trans hszC hl2.size))
 have hszD := hbwD.size
 clear hl2 hb13 hb6C hbwC HNC hszC
 go_wp2_with fail
 refine (HR1.out a9 c9 w13 HND.out hb6D).mono ?_
 rintro e w14 ⟨rfl, hb14⟩
 have hb6E := hb6D.trans (hb14.mono hb6D.size)
 have hbwE := hbwD.trans (hb14.mono hszD)
 have hszE := hbwE.size
 clear hb14 hb6D hbwD HND hszD
 have hl3 : Below w14.heap.size w14 (w14.alloc (.cells #[.int .i64 2, .int .i64 1] 2)) := Below.alloc1 (Nat.le_refl _) (Below.refl _ _) _
 go_wp2_with fail
 refine (HR2.out (some ⟨w14.heap.size, 0, none⟩) 2 _ (lit_nat w14 2 1) (hb6E.trans (hl3.mono hb6E.size))).mono ?_
 rintro e w15 ⟨rfl, hb15⟩
 have hfin := (hbwE.trans (hl3.mono hszE)).trans (hb15.mono (Nat.le_trans hszE hl3.size))
 go_wp2_with fail
 go_ret
 exact ⟨rfl, hfin⟩
end Go.Proofs.YtekmadgacepdfaaGreat.T
namespace Go.Proofs.YtekmadgacepdfaaGreat.T
set_option linter.unusedVariables false
open Go.RowKit Fl Go.Shelf
set_option linter.unusedSimpArgs false

theorem few_any (a : Option Addr) (c n : Nat) (w : World) (hcap : n ≤ c) (h42 : n ≤ 4398046511104) :
  Calls Tryz.prog 26 #[.slice a n c] w fun e w' => ∃ a', e = .returned (.slice a' (min n 65) c) ∧ (a' = a ∨ n = 0) ∧ w = w' := by
 by_cases h65 : 65 < n
 ·have h1 : (65 : Int) < (n : Int) := by omega
  have h2 : 65 ≤ c := by omega
  have h3 : min n 65 = 65 := by omega
  rw [h3]
  clear h3
  go_enter Tryz.func26, Tryz.ntmps26
  go_wp2
  all_goals
   go_ret
   exact ⟨_, rfl, .inl rfl, rfl⟩
 ·have h1 : ¬ (65 : Int) < (n : Int) := by omega
  have h3 : min n 65 = n := by omega
  rw [h3]
  clear h3
  go_enter Tryz.func26, Tryz.ntmps26
  go_wp2
  go_ret
  exact ⟨_, rfl, .inl rfl, rfl⟩
/-- The history in use. -/
theorem few_hat {w : World} {a a' : Option Addr} {h : List DoneV} (hh : HAt w a h) (ha : a' = a ∨ h.length = 0) : HAt w a' (h.take 65) ∧ (h.take 65).length = min h.length 65 := by
 refine ⟨?_, by rw [List.length_take]; omega⟩
 rcases ha with rfl | h0
 ·exact hh.take 65
 ·have : h = [] := List.eq_nil_of_length_eq_zero h0
  subst this
  exact ⟨.inl rfl, fun i hi => by simp at hi, by simp⟩
/-- A number in a row is overwritten. -/
theorem setN {w : World} {B g n c k : Nat} {L : List Int} (y : Int) (hL : L.length = n) (h : w.ownsRow B 2 1 (.slice (some ⟨g, 0, none⟩) n c) n (nCells L)) (hk : k < n) :
  (∃ v, w.cell? ⟨g, k, none⟩ = some v) ∧ w.frozen? ⟨g, k, none⟩ = false ∧ (w.setCell ⟨g, k, none⟩ (.int .i64 y)).ownsRow B 2 1 (.slice (some ⟨g, 0, none⟩) n c) n (nCells (L.set k y)) ∧ w.grownBy (w.setCell ⟨g, k, none⟩ (.int .i64 y)) (some g) := by
 have hkl : k < L.length := by omega
 have hc := h.cells (g := g) rfl k (.int .i64 L[k]) (by unfold nCells; rw [List.getElem?_map, List.getElem?_eq_getElem hkl]; rfl)
 rw [K.addr0] at hc
 rcases h.2 with ⟨h1, _⟩ | ⟨g', cap, cur, h1, h2, hb, h4, h5, h6, h7⟩
 ·cases h1
 injection h1 with ha _ hcap
 injection ha with ha
 injection ha with ha
 subst ha; subst hcap
 have hset := K.set1 (i := k) hb (Value.int IntKind.i64 y)
 refine ⟨⟨_, hc⟩, by rw [World.frozen?]; simp [hb], ⟨by unfold nCells; rw [List.length_map, List.length_set, hL, Nat.mul_one], .inr ⟨g, c, _, rfl, h2, hset.1, h4, h5, by simpa using h6, ?_⟩⟩, hset.2⟩
 unfold nCells at h7 ⊢
 rw [List.map_set, ← h7]
 simp [List.take_set]
theorem setE {w : World} {B g n c k : Nat} {cs : List Value} (y : Int) (h : w.ownsRow B 76 2 (.slice (some ⟨g, 0, none⟩) n c) n cs) (hk : k < n) :
  (∃ v, w.cell? ⟨g, k * 2, none⟩ = some v) ∧ w.frozen? ⟨g, k * 2, none⟩ = false ∧ (∃ cs, (w.setCell ⟨g, k * 2, none⟩ (.int .i64 y)).ownsRow B 76 2 (.slice (some ⟨g, 0, none⟩) n c) n cs) ∧ w.grownBy (w.setCell ⟨g, k * 2, none⟩ (.int .i64 y)) (some g) := by
 have hkl : k * 2 < cs.length := by rw [h.1]; omega
 have hc := h.cells (g := g) rfl (k * 2) cs[k * 2] (List.getElem?_eq_getElem hkl)
 rw [K.addr0] at hc
 rcases h.2 with ⟨h1, _⟩ | ⟨g', cap, cur, h1, h2, hb, h4, h5, h6, h7⟩
 ·cases h1
 injection h1 with ha _ hcap
 injection ha with ha
 injection ha with ha
 subst ha; subst hcap
 have hset := K.set1 (i := k * 2) hb (Value.int IntKind.i64 y)
 exact ⟨⟨_, hc⟩, by rw [World.frozen?]; simp [hb], ⟨((cur.setIfInBounds (k * 2) (.int .i64 y)).toList.take (n * 2)), ⟨by simp [h6]; omega, .inr ⟨g, c, _, rfl, h2, hset.1, h4, h5, by simpa using h6, rfl⟩⟩⟩, hset.2⟩
/-- Where each number stands, as far as they have been looked at. -/
def AtOk (o : List Int) (i : Nat) (f : Nat → Int) : Prop := (∀ j, j < i → ∀ k : Nat, o[j]? = some (k : Int) → f k = (j : Int) + 1) ∧ ∀ k : Nat, (k : Int) ∉ o.take i → f k = 0
theorem at_snoc {o : List Int} {i k : Nat} {f : Nat → Int} (hn : o.Nodup) (h : AtOk o i f) (hk : o[i]? = some (k : Int)) : AtOk o (i + 1) (upd f k ((i : Int) + 1)) ∧ f k = 0 := by
 have hil := (List.getElem?_eq_some_iff.1 hk).1
 have hne : ∀ j, j < i → o[j]? ≠ some (k : Int) := fun j hj e => by
  have h1 := List.pairwise_iff_getElem.1 hn j i (by omega) hil hj
  rw [List.getElem?_eq_getElem (by omega)] at e hk
  exact h1 ((Option.some.inj e).trans (Option.some.inj hk).symm)
 refine ⟨⟨fun j hj q hq => ?_, fun q hq => ?_⟩, h.2 k fun hm => ?_⟩
 ·unfold upd
  by_cases hji : j = i
  ·subst hji
   rw [hk] at hq
   have : k = q := by have := Option.some.inj hq; omega
   rw [if_pos this.symm]
  ·rw [if_neg (fun e => hne j (by omega) (by rw [hq, e]))]
   exact h.1 j (by omega) q hq
 ·unfold upd
  rw [List.take_add_one, hk] at hq
  have h1 : (q : Int) ∉ o.take i := fun hm => hq (List.mem_append_left _ hm)
  have h2 : q ≠ k := fun e => hq (List.mem_append_right _ (by simp [e]))
  rw [if_neg h2]
  exact h.2 q h1
 ·obtain ⟨j, hj, he⟩ := List.mem_take_iff_getElem.1 hm
  exact hne j (by omega) (by rw [List.getElem?_eq_getElem (by omega), he])
/-- No edge leads back. -/
theorem at_edges {h : List DoneV} {o : List Int} {f : Nat → Int} (ha : AtOk o o.length f) (hb : o.Pairwise fun a b => lead h b a = false) {m k : Nat} (hm : (m : Int) ∈ o) (hk : (k : Int) ∈ o) (hl : lead h m k = true) : f m < f k := by
 obtain ⟨i, hi, he⟩ := List.mem_iff_getElem.1 hm
 obtain ⟨j, hj, hf⟩ := List.mem_iff_getElem.1 hk
 rw [ha.1 i hi m (by rw [List.getElem?_eq_getElem hi, he]), ha.1 j hj k (by rw [List.getElem?_eq_getElem hj, hf])]
 rcases Nat.lt_trichotomy i j with h1 | h1 | h1
 ·omega
 ·subst h1
  rw [he] at hf
  have : m = k := by omega
  subst this
  rw [lead_self] at hl; cases hl
 ·have := List.pairwise_iff_getElem.1 hb j i hj hi h1
  rw [he, hf, hl] at this; cases this
end Go.Proofs.YtekmadgacepdfaaGreat.T
namespace Go.Proofs.YtekmadgacepdfaaGreat.T
set_option linter.unusedVariables false
open Go.RowKit Fl Go.Shelf
set_option linter.unusedSimpArgs false

set_option maxHeartbeats 4000000 in
set_option maxRecDepth 100000 in
theorem serialHolds_walk (a : Option Addr) (c0 : Nat) (h0 : List DoneV) (w : World) (hh : HAt w a h0) (hcap : h0.length ≤ c0) :
  Calls Tryz.prog 9 #[.slice a h0.length c0] w (Ret (.bool true) w) := by
 have HF := hid fun W => few_any a c0 h0.length W hcap hh.len
 have HH := hid hh
 obtain ⟨n0, hn0⟩ : ∃ n0, n0 = h0.length := ⟨_, rfl⟩
 rw [← hn0] at HF hcap ⊢
 have HN0 := hid hn0
 clear hh hn0
 go_enter Tryz.func9, Tryz.ntmps9
 go_upto_region 3 with (go_at_call 25; (with_reducible refine (alive12_any _).mono ?_); rintro e w1 ⟨rfl, hb1⟩; obtain ⟨hc1, hf1⟩ := bcell hb1; (try simp only [World.heap_drewN, World.cell?_drewN, World.frozen?_drewN] at hc1 hf1); have hz1 := hb1.size; (try simp at hz1); (try have hy1_0 : w.heap.size < w1.heap.size := by omega); (try have hy1_1 : w.heap.size + 1 < w1.heap.size := by omega); (try have hx1_0 : w.heap.size ≤ w1.heap.size := by omega); (try have hx1_1 : w.heap.size + 1 ≤ w1.heap.size := by omega))
 go_wp2_with fail
 refine (HF.out w1).mono ?_
 rintro e w2 ⟨a', rfl, ha', rfl⟩
 obtain ⟨hh1, hl1⟩ := few_hat (HH.out.below hb1) (by rcases ha' with h | h; exact .inl h; exact .inr (by rw [← HN0.out]; exact h))
 rw [← HN0.out] at hl1
 have hcap1 : min n0 65 ≤ c0 := by omega
 have hn65 : min n0 65 ≤ 65 := by omega
 generalize h0.take 65 = h at *
 generalize min n0 65 = n at *
 have HX := hid hh1
 have HN := hid hl1
 have hsz1 := hb1.size
 clear hh1 hl1 HF HH HN0 hcap ha' hc1 hf1 hz1
 have hcap : n ≤ c0 := hcap1
 have HOR := hid fun W (hb : Below w1.heap.size w1 W) => order_any a' c0 n h W HN.out hcap (HX.out.below hb)
 go_wp2_with fail
 refine (HOR.out w1 (Below.refl _ _)).mono ?_
 by_cases hgood : rightV h = true ∧ (sortV h).2 = []
 rotate_left
 ·have ho : ordV h = ([], false) := by unfold ordV; rw [if_neg hgood]
  rw [ho]
  rintro e w3 ⟨ao, co, rfl, -, hb3⟩
  have hfin := hb1.trans (hb3.mono hsz1)
  clear hgood ho
  go_wp2_with fail
  go_ret
  exact ⟨rfl, hfin⟩
 obtain ⟨hr, hs0⟩ := hgood
 have ho : ordV h = ((sortV h).1, true) := by unfold ordV; rw [if_pos ⟨hr, hs0⟩]
 rw [ho] at HOR ⊢
 have hperm : (sortV h).1.Perm (upN n) := by have := sort_perm hr; rw [hs0, List.append_nil, HN.out] at this; exact this
 have hback : (sortV h).1.Pairwise fun a b => lead h b a = false := by unfold sortV; rw [if_pos hr]; exact (topo_back _ _ _).1
 have hreads := sort_reads hr hs0
 have hlo : (sortV h).1.length = n := by rw [hperm.length_eq, upN_len]
 have hn64 : n ≤ 64 := by have := right_len hr; rw [HN.out] at this; exact this
 have HR := hid hr
 clear ho hs0 hr
 generalize (sortV h).1 = o at *
 have HPM := hid hperm; have HBK := hid hback; have HLO := hid hlo; have HRE := hid hreads
 clear hperm hback hlo hreads
 rintro e w3 ⟨ao, co, rfl, hO, hb3⟩
 rw [HLO.out] at hO
 have HNO := hid (own_nat HLO.out hO (by unfold maxLen; omega))
 have hbw3 := hb1.trans (hb3.mono hsz1)
 simp only
 rw [HLO.out]
 clear hO
 have HRD := hid (reads_any a' ao c0 co n n h o true w3 HN.out hcap (HX.out.below hb3) HLO.out (by omega) HNO.out HRE.out)
 go_wp2_with fail
 refine HRD.out.mono ?_
 rintro e w4 ⟨rfl, hb4⟩
 have hb14 := hb3.trans (hb4.mono hb3.size)
 have HNO4 := hid (HNO.out.below hb4)
 clear HRD hb3 hb4 HNO hbw3
 have hbw4 := hb1.trans (hb14.mono hsz1)
 go_wp2_with fail
 refine (HOR.out w4 hb14).mono ?_
 rintro e w5 ⟨ag, cg, rfl, hG, hb5⟩
 simp only at hG
 rw [HLO.out] at hG
 have hb15 := hb14.trans (hb5.mono hb14.size)
 have HNO5 := hid (HNO4.out.below hb5)
 have HG5 := hid hG
 have hbw5 := hbw4.trans (hb5.mono hbw4.size)
 simp only
 rw [HLO.out]
 have HB45 : Hid (Below w4.heap.size w4 w5) := hid hb5
 have HB14 : Hid (Below w1.heap.size w1 w4) := hid hb14
 clear hG hb14 hb5 HOR HNO5 hb15
 have hb45 : Below w4.heap.size w4 w5 := HB45.out
 have HED := hid fun W (hb : Below w4.heap.size w4 W) => edges_any a' c0 n h W HN.out hcap ((HX.out.below HB14.out).below hb)
 have HNO := hid fun W (hb : Below w4.heap.size w4 W) => HNO4.out.below hb
 go_wp2_with fail
 refine (HED.out w5 hb45).mono ?_
 rintro e w6 ⟨ae, ce, rfl, hE, hb6⟩
 have HG6 := hid (own_keep HG5.out fun q cur _ hq => hb6.block q (Array.getElem?_eq_some_iff.1 hq).1)
 have hb46 := hb45.trans (hb6.mono hb45.size)
 have hEL : (edgesV h).length ≤ 4096 := by
  have h1 := outE_len h h.length
  have h2 : edgesV h = outE h h.length := by unfold edgesV outE; rw [if_pos HR.out, List.take_length]
  rw [h2]
  refine Nat.le_trans h1 ?_
  rw [HN.out]
  exact Nat.mul_le_mul (by omega : n ≤ 64) (by omega : n ≤ 64)
 have HEM := hid fun e he => edges_mem HR.out (e := e) he
 have hEN : ∀ e ∈ edgesV h, lead h e.1 e.2 = true := fun e he => by
  rw [edges_nums HR.out] at he
  obtain ⟨m, hm, hx⟩ := List.mem_flatMap.1 he
  obtain ⟨k, hk, rfl⟩ := List.mem_map.1 hx
  exact (List.mem_filter.1 hk).2
 have HEN := hid hEN
 have h45 := hb45.size
 obtain ⟨l, hl⟩ : ∃ l, l = edgesV h := ⟨_, rfl⟩
 rw [← hl] at hE hEL HEM HEN HED ⊢
 obtain ⟨E, hEe⟩ : ∃ E, E = l.length := ⟨_, rfl⟩
 rw [← hEe] at hE hEL ⊢
 have HEE := hid hEe
 have HE6 := hid hE
 have hwB := hbw4.size
 clear hE hb6 HNO4 HG5 hl hEe hEN
 go_upto_region 12 with fail
 go_loopw [49] (fun t49 wx => ∃ (q : Nat) (L : List Int), t49 = .int .i64 (q : Nat) ∧ q ≤ n ∧ Hid (L.length = n) ∧ Hid (wx.ownsRow w4.heap.size 2 1 (.slice ag n cg) n (nCells L)) ∧ Hid (wx.ownsRow w5.heap.size 76 2 (.slice ae E ce) E (eCells l)) ∧ Below w4.heap.size w4 wx) (fun t49 _ => n - (intOf t49).toNat)
 case atStart => exact ⟨0, o, rfl, Nat.zero_le _, HLO, HG6, HE6, hb46⟩
 case round =>
  obtain ⟨q, L, rfl, hq, HLL, HG, HE, hbx⟩ := hrel
  clear HG6 HE6 hb46
  by_cases hqn : q < n
  ·have hqn' : (q : Int) < (n : Int) := by omega
   have hrow := HG.out
   rcases hrow.2 with ⟨_, h2⟩ | ⟨g, cap, cur, h1, -⟩
   ·omega
   injection h1 with ha _ hcap2
   subst ha; subst hcap2
   obtain ⟨⟨v, q1⟩, q2, q3, q4⟩ := setN 99 HLL.out hrow hqn
   have hgl := hrow.lt g rfl
   obtain ⟨hgl1, hgl2⟩ := hgl
   have HG2 := hid q3
   have HL2 : Hid ((L.set q 99).length = n) := hid (by rw [List.length_set]; exact HLL.out)
   have HE2 := hid (own_keep HE.out fun p cur2 _ hp => q4.block p (Array.getElem?_eq_some_iff.1 hp).1 fun e => by
    have e1 := Option.some.inj e
    obtain ⟨cur3, hb3⟩ := own_blkT hrow (g := g) rfl
    rw [e1, hb3] at hp
    simp only [Option.some.injEq, Obj.cells.injEq] at hp
    exact absurd hp.2.1 (by decide))
   have HB2 := hid (hbx.grown q4 hbx.size (fun k hk => by cases hk; exact hgl1))
   clear q3 q4 hrow
   go_wp2_with fail
   go_roundw
   case rel => exact ⟨q + 1, L.set q 99, by go_num, by omega, HL2, HG2, HE2, HB2.out⟩
   case measure => simp [intOf]; omega
  ·obtain rfl : q = n := by omega
   have hge : ¬ (q : Int) < (q : Int) := by omega
   clear HG HLL
   go_upto_region 17 with fail
   go_loopw [58] (fun t58 wx => ∃ (p : Nat) (cs : List Value), t58 = .int .i64 (p : Nat) ∧ p ≤ E ∧ Hid (wx.ownsRow w5.heap.size 76 2 (.slice ae E ce) E cs) ∧ Below w4.heap.size w4 wx) (fun t58 _ => E - (intOf t58).toNat)
   case atStart => exact ⟨0, eCells l, rfl, Nat.zero_le _, HE, hbx⟩
   case round =>
    obtain ⟨p, cs, rfl, hp, HE2, hby⟩ := hrel
    clear HE hbx
    by_cases hpE : p < E
    ·have hpE' : (p : Int) < (E : Int) := by omega
     have hrow := HE2.out
     rcases hrow.2 with ⟨_, h2⟩ | ⟨g, cap, cur, h1, -⟩
     ·omega
     injection h1 with ha _ hcap2
     subst ha; subst hcap2
     obtain ⟨⟨v, q1⟩, q2, ⟨cs2, q3⟩, q4⟩ := setE 99 hrow hpE
     obtain ⟨hgl1, hgl2⟩ := hrow.lt g rfl
     have HE3 := hid q3
     have HB2 := hid (hby.grown q4 hby.size (fun k hk => by cases hk; omega))
     clear q3 q4 hrow
     go_wp2_with fail
     go_roundw
     case rel => exact ⟨p + 1, cs2, by go_num, by omega, HE3, HB2.out⟩
     case measure => simp [intOf]; omega
    ·obtain rfl : p = E := by omega
     have hge2 : ¬ (p : Int) < (p : Int) := by omega
     obtain ⟨wm, rfl⟩ : ∃ x, x = wr := ⟨_, rfl⟩
     obtain ⟨W1, hmk1, hrow1, hg1⟩ := make_ints q hn64 wm
     have hmb := below_of_grown hg1
     have hby1 := hby.trans (hmb.mono hby.size)
     have hA4 := hby.size
     have HROW1 := hid hrow1; have HBY1 := hid hby1
     clear hg1 hmb hrow1 hby1 HE2
     go_upto_region 23 with fail
     clear hmk1
     generalize wm.heap.size = A at *
     go_loopw [72] (fun t72 wx => ∃ (i : Nat) (f : Nat → Int), t72 = .int .i64 (i : Nat) ∧ i ≤ q ∧ Hid (AtOk o i f) ∧ Hid (wx.heap[A]? = some (.cells ((List.range (q + 1)).map fun k => Value.int .i64 (f k)).toArray 3 (0, 0))) ∧ Below w4.heap.size w4 wx) (fun t72 _ => q - (intOf t72).toNat)
     case atStart => exact ⟨0, fun _ => 0, rfl, Nat.zero_le _, hid ⟨fun j hj => absurd hj (Nat.not_lt_zero _), fun _ _ => rfl⟩, HROW1, HBY1.out⟩
     case round =>
      obtain ⟨i, f, rfl, hi, HAT, HRW, hbi⟩ := hrel
      by_cases hiq : i < q
      ·have hiq' : (i : Int) < (q : Int) := by omega
       have hio : i < o.length := by rw [HLO.out]; exact hiq
       have hsome : o[i]? = some (o[i]?.getD 0) := by rw [List.getElem?_eq_getElem hio]; rfl
       rcases (HNO.out wr hbi).row with h1 | ⟨b, oo, hao, hbl, hc⟩
       ·rw [h1] at hio; simp at hio
       have hc := hc i hio
       subst hao
       have hmU := HPM.out.mem_iff.1 (List.mem_of_getElem? hsome)
       have hnd : o.Nodup := HPM.out.nodup_iff.2 (rise_nodup (upN_rise _))
       clear hio
       generalize o[i]?.getD 0 = on at *
       obtain ⟨u1, u2⟩ := upN_mem.1 hmU
       obtain ⟨k, rfl⟩ : ∃ k : Nat, on = (k : Int) := ⟨on.toNat, by omega⟩
       have hkq : k ≤ q := by omega
       obtain ⟨hat, hf0⟩ := at_snoc hnd HAT.out hsome
       have ck : wr.cell? ⟨A, k, none⟩ = some (.int .i64 0) := by rw [cell_of_row wr A k _ _ (0, 0) HRW.out, List.getElem?_toArray, range_at q _ hkq, hf0]
       have fk : wr.frozen? ⟨A, k, none⟩ = false := by simp [World.frozen?, HRW.out]
       have hAl := (Array.getElem?_eq_some_iff.1 HRW.out).1
       obtain ⟨s1, s2⟩ := K.set1 (i := k) HRW.out (.int .i64 ((i : Int) + 1))
       have HS1 : Hid ((wr.setCell ⟨A, k, none⟩ (.int .i64 ((i : Int) + 1))).heap[A]? = some (.cells ((List.range (q + 1)).map fun j => Value.int .i64 (upd f k ((i : Int) + 1) j)).toArray 3 (0, 0))) := hid (by
        rw [s1]
        congr 2
        rw [List.setIfInBounds_toArray, range_set q _ k _ hkq]
        congr 1
        refine List.map_congr_left fun j _ => ?_
        unfold upd
        by_cases hj : j = k
        ·rw [if_pos hj, if_pos hj]
        ·rw [if_neg hj, if_neg hj])
       have HB2 := hid (hbi.grown s2 hbi.size (fun z hz => by cases hz; exact hA4))
       have HAT2 := hid hat
       have hk1 : ¬ (k : Int) < 1 := by omega
       have hk2 : ¬ (q : Int) < (k : Int) := by omega
       have hk3 : (k : Int) < (q : Int) + 1 := by omega
       clear s1 s2 hat hf0 hsome hmU u1 u2 hnd
       go_wp2_with fail
       go_roundw
       case rel => exact ⟨i + 1, _, by go_num, by omega, HAT2, HS1, HB2.out⟩
       case measure => simp [intOf]; omega
      ·obtain rfl : i = q := by omega
       have hge3 : ¬ (i : Int) < (i : Int) := by omega
       have HED2 := hid (HED.out wr hbi)
       have hAl := (Array.getElem?_eq_some_iff.1 HRW.out).1
       clear HROW1 HBY1
       go_wp2_with fail
       refine HED2.out.mono ?_
       rintro e w7 ⟨a7, c7, rfl, hE7, hb7⟩
       have HRW7 := hid ((hb7.block A hAl).trans HRW.out)
       have HE7 := hid hE7
       have hb47 := hbi.trans (hb7.mono hbi.size)
       obtain ⟨wo, rfl⟩ : ∃ x, x = wr := ⟨_, rfl⟩
       rw [← HEE.out]
       have HE7 : Hid (w7.ownsRow wo.heap.size 76 2 (.slice a7 p c7) p (eCells l)) := hid (by rw [HEE.out]; exact HE7.out)
       clear hE7 HED2
       have hbwF := hbw4.trans (hb47.mono hwB)
       have hszF := hbwF.size
       go_upto_region 30 with fail
       go_loopw [101] (fun t101 wx => ∃ j : Nat, t101 = .int .i64 (j : Nat) ∧ j ≤ p ∧ Below w7.heap.size w7 wx) (fun t101 _ => p - (intOf t101).toNat)
       case atStart => exact ⟨0, rfl, Nat.zero_le _, Below.refl _ _⟩
       case round =>
        obtain ⟨j, rfl, hj, hbj⟩ := hrel
        by_cases hjp : j < p
        ·have hjp' : (j : Int) < (p : Int) := by omega
         have hkl : j < l.length := by rw [← HEE.out]; exact hjp
         have hrow := HE7.out
         rcases hrow.2 with ⟨_, h2⟩ | ⟨g, cap, cur, h1, -⟩
         ·omega
         injection h1 with ha _ hcap2
         subst ha; subst hcap2
         have q0 := hrow.cells (g := g) rfl (j * 2 + 0) _ (eCells_at hkl (t := 0) rfl)
         have q1 := hrow.cells (g := g) rfl (j * 2 + 1) _ (eCells_at hkl (t := 1) rfl)
         rw [K.addr0] at q0 q1
         rw [Nat.add_zero] at q0
         have hgl := (hrow.lt g rfl).2
         have r0 := (hbj.cell (p := ⟨g, j * 2, none⟩) hgl).trans q0
         have r1 := (hbj.cell (p := ⟨g, j * 2 + 1, none⟩) hgl).trans q1
         have hgr : g < wr.heap.size := Nat.lt_of_lt_of_le hgl hbj.size
         obtain ⟨⟨m1, m2⟩, k1, k2⟩ := HEM.out l[j] (List.getElem_mem hkl)
         have hld := HEN.out l[j] (List.getElem_mem hkl)
         clear q0 q1 hrow hgl
         generalize l[j] = ed at *
         obtain ⟨em, ek⟩ := ed
         simp only at m1 m2 k1 k2 r0 r1 hld
         rw [HN.out] at m2 k2
         obtain ⟨m, rfl⟩ : ∃ m : Nat, em = (m : Int) := ⟨em.toNat, by omega⟩
         obtain ⟨k, rfl⟩ : ∃ k : Nat, ek = (k : Int) := ⟨ek.toNat, by omega⟩
         have hmi : m ≤ i := by omega
         have hki : k ≤ i := by omega
         have hlt := at_edges (by rw [HLO.out]; exact HAT.out) HBK.out (HPM.out.mem_iff.2 (upN_mem.2 ⟨m1, m2⟩)) (HPM.out.mem_iff.2 (upN_mem.2 ⟨k1, k2⟩)) hld
         have hrA := (hbj.block A (Array.getElem?_eq_some_iff.1 HRW7.out).1).trans HRW7.out
         have cm : wr.cell? ⟨A, m, none⟩ = some (.int .i64 (f m)) := by rw [cell_of_row wr A m _ _ (0, 0) hrA, List.getElem?_toArray, range_at i _ hmi]
         have ckk : wr.cell? ⟨A, k, none⟩ = some (.int .i64 (f k)) := by rw [cell_of_row wr A k _ _ (0, 0) hrA, List.getElem?_toArray, range_at i _ hki]
         have hAr := (Array.getElem?_eq_some_iff.1 hrA).1
         have hgf : decide (f k ≤ f m) = false := by rw [decide_eq_false_iff_not]; omega
         have hm3 : (m : Int) < (i : Int) + 1 := by omega
         have hk3 : (k : Int) < (i : Int) + 1 := by omega
         clear hrA hlt hld m1 m2 k1 k2
         generalize f m = fm at *
         generalize f k = fk at *
         have hzj := hbj.size
         go_upto_region 32 with fail
         go_quiet (fail)
         go_wp2_with fail
         go_roundw
         case rel => exact ⟨j + 1, by go_num, by omega, by (repeat (first | with_reducible exact Below.refl _ _ | ((with_reducible refine Below.alloc1 ?_ ?_ _); (· first | omega | (simp; done) | (simp; omega))) | (with_reducible refine Below.drew ?_) | (with_reducible refine below_drewN' ?_ _) | ((with_reducible refine Below.setCell1 ?_ ?_ _); (· first | omega | (simp; done) | (simp; omega))) | ((with_reducible refine Below.after (by assumption) ?_ ?_); (· first | omega | (simp; done) | (simp; omega)))))⟩
         case measure => simp [intOf]; omega
        ·obtain rfl : j = p := by omega
         have hge4 : ¬ (j : Int) < (j : Int) := by omega
         have hfin := hbwF.trans (hbj.mono hszF)
         go_wp2_with fail
         go_ret
         exact ⟨rfl, hfin⟩
end Go.Proofs.YtekmadgacepdfaaGreat.T
