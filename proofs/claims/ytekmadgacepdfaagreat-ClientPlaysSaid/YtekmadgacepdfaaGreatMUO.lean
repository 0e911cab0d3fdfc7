/- Several texts as one: UP US. -/
import Derived.Test.YtekmadgacepdfaaGreatMUG
import Derived.Test.YtekmadgacepdfaaGreatMUC
import Derived.Test.YtekmadgacepdfaaGreatUO
namespace Go.Proofs.YtekmadgacepdfaaGreat.U
set_option linter.unusedVariables false
open Go.RowKit Fl
open Go.Proofs.YtekmadgacepdfaaGreat.P (encO SameD)
open Go.Proofs.YtekmadgacepdfaaGreat.K (canC Fits)
set_option linter.unusedSimpArgs false

theorem canC_same {x y : SubV} (h : SameD x y) : canC x = canC y := by
 unfold canC K.outChk K.SubV.nb
 rw [h.s0, h.s1, h.s2, h.rs, h.ss, h.ws]
theorem lit_can1 : canC ⟨1, 1, 0, none, 0, [], none, 0, [], none, 0, [4607182418800017408]⟩ = 0 := by decide +kernel
theorem lit_can2 : canC ⟨1, 2, 0, none, 0, [], none, 0, [], none, 0, [4611686018427387904]⟩ = 0 := by decide +kernel
theorem vlq_pos (u : Nat) : 0 < (P.vlq u).length := by
 by_cases h : u < 128
 ·rw [P.vlq_lt h]; simp
 ·rw [P.vlq_ge h]; simp
theorem bytesU_pos {x : SubV} (h : canC x = 0) : 0 < (bytesU x).length := by
 unfold bytesU P.encO
 rw [if_pos (norm_chk x h), P.packB_dB]
 unfold P.dB P.numB
 rw [List.length_append]
 have := vlq_pos (P.zig (P.toD (normU x)).1)
 omega
def lone1 (B f : Nat) : SubV := ⟨0, 0, 0, none, 0, [], none, 0, [], some ⟨B, 0, none⟩, 1, [f]⟩
theorem lone1_at {w : World} {f : Nat} (hf : f < 2 ^ 64) : (lone1 w.heap.size f).At (w.alloc (.cells #[.float .f64 f] 64)) := by
 refine ⟨⟨.inl rfl, fun i hi => absurd hi (Nat.not_lt_zero _), Nat.zero_le _⟩, ⟨.inl rfl, fun i hi => absurd hi (Nat.not_lt_zero _), Nat.zero_le _⟩, ⟨.inr ⟨w.heap.size, 0, rfl, by simp, fun i hi => ?_⟩, fun i hi => ?_, by show 1 ≤ maxLen; unfold maxLen; omega⟩⟩
 ·have : i = 0 := by have : i < 1 := hi; omega
  subst this
  rw [cell_of_row _ _ _ _ _ (0, 0) (heap_alloc_new w _)]; rfl
 ·have : i = 0 := by have : i < 1 := hi; omega
  subst this
  exact hf
theorem lone1_fits (B f : Nat) : Fits (lone1 B f) := ⟨by simp [lone1], by simp [lone1], by simp [lone1]⟩
theorem three_at (w : World) : ZAt (w.alloc (.cells #[.int .i64 1, .int .i64 2, .int .i64 3] 3)) (some ⟨w.heap.size, 0, none⟩) [1, 2, 3] := by
 refine ⟨.inr ⟨w.heap.size, 0, rfl, by simp, fun i hi => ?_⟩, by simp [maxLen]⟩
 rw [cell_of_row _ _ _ _ _ (0, 0) (heap_alloc_new w _)]
 have : i = 0 ∨ i = 1 ∨ i = 2 := by have : i < 3 := hi; omega
 rcases this with rfl | rfl | rfl <;> rfl
theorem two_at (w : World) : ZAt (w.alloc (.cells #[.int .i64 2] 2)) (some ⟨w.heap.size, 0, none⟩) [2] := by
 refine ⟨.inr ⟨w.heap.size, 0, rfl, by simp, fun i hi => ?_⟩, by simp [maxLen]⟩
 rw [cell_of_row _ _ _ _ _ (0, 0) (heap_alloc_new w _)]
 have : i = 0 := by have : i < 1 := hi; omega
 subst this; rfl
set_option maxHeartbeats 4000000 in
set_option maxRecDepth 100000 in
theorem alive21_any (w : World) : Calls Tryz.prog 13 #[] w (Ret (.bool true) w) := by
 go_enter Tryz.func13, Tryz.ntmps13
 go_wp2_with fail
 have hA : Below w.heap.size w (w.alloc (.cells #[.int .i64 1, .int .i64 2, .int .i64 3] 3)) := Below.alloc1 (Nat.le_refl _) (Below.refl _ _) _
 have hz := three_at w
 refine (new_any 1 (some ⟨w.heap.size, 0, none⟩) 3 3 [1, 2, 3] _ rfl hz ⟨by omega, by omega⟩).mono ?_
 rintro e w1 ⟨hb1, p, c, rfl, hC, hd⟩
 generalize w.alloc (.cells #[.int .i64 1, .int .i64 2, .int .i64 3] 3) = w0 at *
 have hb01 := hA.trans (hb1.mono hA.size)
 have hd0 : c.d = ⟨1, 0, [1, 2, 3], 0, [], []⟩ := hd
 have HD := hid hd0; have HC := hid hC
 clear hz hb1 hd hd0 hC
 go_wp2_with fail
 have hB2 : Below w1.heap.size w1 (w1.alloc (.cells #[.float .f64 4607182418800017408] 64)) := Below.alloc1 (Nat.le_refl _) (Below.refl _ _) _
 refine (add_any w0.heap.size p c (lone1 w1.heap.size 4607182418800017408) _ (HC.out.below hB2) (lone1_at (by omega)) (lone1_fits _ _)).mono ?_
 rw [HD.out]
 have e1 : canC (subD ⟨1, 0, [1, 2, 3], 0, [], []⟩ (lone1 w1.heap.size 4607182418800017408)) = 0 := (canC_same ⟨rfl, rfl, rfl, rfl, rfl, rfl⟩).trans lit_can1
 have e2 : addD ⟨1, 0, [1, 2, 3], 0, [], []⟩ (lone1 w1.heap.size 4607182418800017408) = (⟨1, 1, [1, 2, 3], 0, [(1, bytesU (subD ⟨1, 0, [1, 2, 3], 0, [], []⟩ (lone1 w1.heap.size 4607182418800017408)))], []⟩, 1, 0) := by
  unfold addD
  rw [if_neg (by decide), if_pos e1]; rfl
 rw [e2]
 rintro e w2 ⟨rfl, ⟨hb2, _⟩, c2, hC2, hd2, _⟩
 generalize bytesU (subD ⟨1, 0, [1, 2, 3], 0, [], []⟩ (lone1 w1.heap.size 4607182418800017408)) = E1 at *
 have hsz0 : w.heap.size ≤ w0.heap.size := hA.size
 have h02 : Below w.heap.size w w2 := (hb01.trans (hB2.mono hb01.size)).trans (hb2.mono hsz0)
 have HC2 := hid hC2; have HD2 := hid hd2
 clear e1 e2 hB2 hb2 hC2 hd2 HC HD hb01 hA
 go_wp2_with fail
 have hB3 : Below w2.heap.size w2 (w2.alloc (.cells #[.float .f64 4611686018427387904] 64)) := Below.alloc1 (Nat.le_refl _) (Below.refl _ _) _
 refine (add_any w0.heap.size p c2 (lone1 w2.heap.size 4611686018427387904) _ (HC2.out.below hB3) (lone1_at (by omega)) (lone1_fits _ _)).mono ?_
 rw [HD2.out]
 have e1 : canC (subD ⟨1, 1, [1, 2, 3], 0, [(1, E1)], []⟩ (lone1 w2.heap.size 4611686018427387904)) = 0 := (canC_same ⟨rfl, rfl, rfl, rfl, rfl, rfl⟩).trans lit_can2
 have hpos := bytesU_pos e1
 have e2 : addD ⟨1, 1, [1, 2, 3], 0, [(1, E1)], []⟩ (lone1 w2.heap.size 4611686018427387904) = (⟨1, 2, [1, 2, 3], 0, [(1, E1), (2, bytesU (subD ⟨1, 1, [1, 2, 3], 0, [(1, E1)], []⟩ (lone1 w2.heap.size 4611686018427387904)))], []⟩, 2, 0) := by
  unfold addD
  have hf : fullD ⟨1, 1, [1, 2, 3], 0, [(1, E1)], []⟩ = false := rfl
  rw [if_neg (by rw [hf]; decide), if_pos e1]; rfl
 rw [e2]
 rintro e w3 ⟨rfl, ⟨hb3, _⟩, c3, hC3, hd3, _⟩
 generalize bytesU (subD ⟨1, 1, [1, 2, 3], 0, [(1, E1)], []⟩ (lone1 w2.heap.size 4611686018427387904)) = E2 at *
 have h03 : Below w.heap.size w w3 := (h02.trans (hB3.mono h02.size)).trans (hb3.mono hsz0)
 have HC3 := hid hC3; have HD3 := hid hd3
 clear e1 e2 hB3 hb3 hC3 hd3 HC2 HD2 h02
 go_wp2_with fail
 refine (heard_any w0.heap.size p c3 1 0 5 0 0 w3 HC3.out ⟨by omega, by omega⟩).mono ?_
 rw [HD3.out]
 have e3 : heardD ⟨1, 2, [1, 2, 3], 0, [(1, E1), (2, E2)], []⟩ 1 0 5 0 0 = ⟨1, 2, [1, 2, 3], 0, [(2, E2)], [⟨1, 0, 5⟩]⟩ := by
  unfold heardD
  rw [if_neg (by simp), if_pos rfl]
  simp
 rw [e3]
 rintro e w4 ⟨rfl, ⟨hb4, _⟩, c4, hC4, hd4, _⟩
 have h04 : Below w.heap.size w w4 := h03.trans (hb4.mono hsz0)
 have HC4 := hid hC4; have HD4 := hid hd4
 clear e3 hb4 hC4 hd4 HC3 HD3 h03
 go_wp2_with fail
 refine (heard_any w0.heap.size p c4 2 0 0 180 3 w4 HC4.out ⟨by omega, by omega⟩).mono ?_
 rw [HD4.out]
 have e4 : heardD ⟨1, 2, [1, 2, 3], 0, [(2, E2)], [⟨1, 0, 5⟩]⟩ 2 0 0 180 3 = ⟨1, 2, [1, 2, 3], 2, [(2, E2)], [⟨1, 0, 5⟩]⟩ := by
  unfold heardD
  rw [if_neg (by simp), if_neg (by decide), if_pos ⟨rfl, (show (([1, 2, 3] : List Int).any fun x => decide (3 = x)) = true by decide)⟩]
  rfl
 rw [e4]
 rintro e w5 ⟨rfl, ⟨hb5, _⟩, c5, hC5, hd5, _⟩
 have h05 : Below w.heap.size w w5 := h04.trans (hb5.mono hsz0)
 have HC5 := hid hC5
 have hos : c5.os.map (fun o => (o.seq, o.bs)) = [(2, E2)] := congrArg CD.os hd5
 obtain ⟨o, hos1, ho2, hoE⟩ : ∃ o, c5.os = [o] ∧ o.seq = 2 ∧ o.bs = E2 := by
  obtain ⟨o, h1, h2⟩ := List.map_eq_singleton_iff.1 hos
  exact ⟨o, h1, congrArg Prod.fst h2, congrArg Prod.snd h2⟩
 have hrs : c5.rs = [⟨1, 0, 5⟩] := congrArg CD.rs hd5
 have htg : c5.target = 3 := by
  have h1 : c5.ms = [1, 2, 3] := congrArg CD.ms hd5
  have h2 : c5.t = 2 := congrArg CD.t hd5
  unfold CL.target
  rw [h1, h2]; rfl
 have HN := hid (next_any' w0.heap.size p c5 w5 HC5.out)
 have HRS := hid fun W (hb : Below w5.heap.size w5 W) => results_any w0.heap.size p c5 W (HC5.out.below hb)
 have HOP := hid fun W (hb : Below w5.heap.size w5 W) => open_any w0.heap.size p c5 W (HC5.out.below hb)
 have HTG := hid fun W (hb : Below w5.heap.size w5 W) => target_any w0.heap.size p c5 W (HC5.out.below hb)
 unfold NextRet at HN
 rw [hos1] at HN HOP
 simp only [htg, hoE] at HN
 rw [htg] at HTG
 rw [hrs] at HRS
 simp only [List.map_cons, List.map_nil, ho2] at HOP
 clear e4 hb5 hC5 hd5 HC4 HD4 h04 hos hos1 ho2 hoE hrs htg
 go_wp2_with fail
 refine HN.out.mono ?_
 rintro e w6 ⟨hb6, a6, c6, rfl, _⟩
 have HE := hid hpos
 have hEi : 0 < (E2.length : Int) := by omega
 generalize E2.length = m at *
 clear HN
 go_wp2_with fail
 refine (HRS.out w6 hb6).mono ?_
 rintro e w7 ⟨a7, c7, rfl, ho7, hb7⟩
 have h57 := hb6.trans (hb7.mono hb6.size)
 have hr7 : ∃ g, a7 = some ⟨g, 0, none⟩ ∧ w7.cell? ⟨g, 2, none⟩ = some (.int .i64 5) := by
  rcases ho7.2 with ⟨h1, h2⟩ | ⟨g, cap, cur, h1, _⟩
  ·cases h2
  ·injection h1 with ha _ _
   subst ha
   refine ⟨g, rfl, ?_⟩
   have := ho7.cells (g := g) rfl 2 (.int .i64 5) rfl
   rwa [K.addr0] at this
 obtain ⟨g7, rfl, k7⟩ := hr7
 clear HRS ho7 hb6 hb7
 simp only [List.length_cons, List.length_nil, Nat.zero_add]
 go_wp2_with fail
 refine (HOP.out w7 h57).mono ?_
 rintro e w8 ⟨a8, c8, rfl, ho8, hb8⟩
 have h58 := h57.trans (hb8.mono h57.size)
 have hz8 := own_zat rfl ho8 (by simp [maxLen])
 clear HOP ho8 hb8 k7
 simp only [List.length_cons, List.length_nil, Nat.zero_add]
 go_wp2_with fail
 have hb9 : Below w8.heap.size w8 (w8.alloc (.cells #[.int .i64 2] 2)) := Below.alloc1 (Nat.le_refl _) (Below.refl _ _) _
 refine (sameZ_any a8 (some ⟨w8.heap.size, 0, none⟩) c8 1 1 1 [2] [2] true _ rfl rfl (hz8.below hb9) (two_at w8) (by decide)).mono ?_
 rintro e w10 ⟨rfl, hb10⟩
 have h5x := (h58.trans (hb9.mono h58.size)).trans (hb10.mono (by have := hb9.size; have := h58.size; omega))
 clear hz8 hb9 hb10
 go_wp2_with fail
 refine (HTG.out w10 h5x).mono ?_
 rintro e w11 ⟨rfl, hb11⟩
 have hfin := h05.trans ((h5x.trans (hb11.mono h5x.size)).mono h05.size)
 go_wp2_with fail
 go_ret
 exact ⟨rfl, hfin⟩
end Go.Proofs.YtekmadgacepdfaaGreat.U
namespace Go.Proofs.YtekmadgacepdfaaGreat.U
set_option linter.unusedVariables false
open Go.RowKit Fl
open Go.Proofs.YtekmadgacepdfaaGreat.K (Fits)

structure OpV where
 kind : Int
 s : SubV
 seq : Int
 code : Int
 num : Int
 e : Int
 lead : Int
def noSub : SubV := ⟨0, 0, 0, none, 0, [], none, 0, [], none, 0, []⟩
instance : Inhabited OpV := ⟨⟨0, noSub, 0, 0, 0, 0, 0⟩⟩
def encOp (o : OpV) : List Value := [.int .i64 o.kind, .int .i64 o.s.s0, .int .i64 o.s.s1, .int .i64 o.s.s2, .slice o.s.ra o.s.rs.length o.s.rc, .slice o.s.sa o.s.ss.length o.s.sc, .slice o.s.wa o.s.ws.length o.s.wc, .int .i64 o.seq, .int .i64 o.code, .int .i64 o.num, .int .i64 o.e, .int .i64 o.lead]
structure OAt (w : World) (a : Option Addr) (ops : List OpV) : Prop where
 row : ops = [] ∨ ∃ b o, a = some ⟨b, o, none⟩ ∧ b < w.heap.size ∧ ∀ i, i < ops.length → ∀ t v, (encOp (ops[i]?.getD default))[t]? = some v → w.cell? ⟨b, o + i * 12 + t, none⟩ = some v
 sub : ∀ i, i < ops.length → (ops[i]?.getD default).s.At w ∧ Fits (ops[i]?.getD default).s
 num : ∀ i, i < ops.length → -9223372036854775808 ≤ (ops[i]?.getD default).seq ∧ (ops[i]?.getD default).seq ≤ 9223372036854775807
 len : ops.length ≤ 1099511627776
theorem OAt.below {w w' : World} {a : Option Addr} {ops : List OpV} (h : OAt w a ops) (hb : Below w.heap.size w w') : OAt w' a ops := by
 refine ⟨?_, fun i hi => ⟨(h.sub i hi).1.below hb, (h.sub i hi).2⟩, h.num, h.len⟩
 rcases h.row with h0 | ⟨b, o, h1, h2, h3⟩
 ·exact .inl h0
 ·exact .inr ⟨b, o, h1, Nat.lt_of_lt_of_le h2 hb.size, fun i hi t v hv => (hb.cell (p := ⟨b, o + i * 12 + t, none⟩) h2).trans (h3 i hi t v hv)⟩
end Go.Proofs.YtekmadgacepdfaaGreat.U
