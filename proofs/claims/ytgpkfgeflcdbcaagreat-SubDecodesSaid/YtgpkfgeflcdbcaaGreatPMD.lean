/- The document's Decode. -/
import Derived.Test.YtgpkfgeflcdbcaaGreatPM
namespace Go.Proofs.YtgpkfgeflcdbcaaGreat.P
set_option linter.unusedVariables false
open Go.RowKit Fl
set_option linter.unusedSimpArgs false

/-- The box of the submission that is read. -/
structure TSd (W0 W : World) (T : Nat) (cs : Array Value) : Prop where
  fr : W0.grownBy W (some T)
  t : W.heap[T]? = some (.cells cs 25 (0, 0))
theorem TSd.lt {W0 W : World} {T : Nat} {cs : Array Value} (h : TSd W0 W T cs) : T < W.heap.size := (Array.getElem?_eq_some_iff.1 h.t).1
theorem TSd.below {W0 W W' : World} {T C : Nat} {cs : Array Value} (h : TSd W0 W T cs) (hb : Below C W W') (hC : W0.heap.size ≤ C) (hT : T < C) : TSd W0 W' T cs := ⟨grown_below h.fr hb hC, (hb.block T hT).trans h.t⟩
theorem TSd.set {W0 W : World} {T : Nat} {cs : Array Value} (h : TSd W0 W T cs) (i : Nat) (v : Value) : TSd W0 (W.setCell ⟨T, i, none⟩ v) T (cs.setIfInBounds i v) ∧ W.grownBy (W.setCell ⟨T, i, none⟩ v) (some T) := by
  obtain ⟨h5, h6⟩ := set1R (i := i) h.t v
  exact ⟨⟨h.fr.trans h6, h5⟩, h6⟩
theorem TSd.cell {W0 W : World} {T : Nat} {cs : Array Value} (h : TSd W0 W T cs) (i : Nat) : W.cell? ⟨T, i, none⟩ = cs[i]? := cell_of_row W T i _ _ (0, 0) h.t
theorem TSd.fz {W0 W : World} {T : Nat} {cs : Array Value} (h : TSd W0 W T cs) (i : Nat) : W.frozen? ⟨T, i, none⟩ = false := by simp [World.frozen?, h.t]
theorem BelowB.keepB {B : Nat} {w w' : World} {a : Option Addr} {c : Nat} {bs : List Nat} (h : BelowB B w a c bs) (hb : ∀ b, b < B → w'.heap[b]? = w.heap[b]?) : BelowB B w' a c bs := by
  refine ⟨?_, h.lt, h.cap⟩
  rcases h.row with h0 | ⟨b, o, h1, h2, h3⟩
  · exact .inl h0
  · exact .inr ⟨b, o, h1, h2, fun i hi => (cell_blk (hb b h2) _).trans (h3 i hi)⟩
theorem wrap_small {z : Int} (h1 : 0 ≤ z) (h2 : z < 9223372036854775808) : wrap64 z = z := by unfold wrap64; omega
theorem wrap_two {i : Nat} (h : i ≤ 100) : wrap64 ((i : Int) + 1) = (i : Int) + 1 ∧ wrap64 ((i : Int) + 2) = (i : Int) + 2 := by unfold wrap64; omega
theorem meas2 {n i : Nat} (h : i + 1 < n) : n - (intOf (.int .i64 ((i : Int) + 2))).toNat < n - (intOf (.int .i64 (i : Nat))).toNat := by
  show n - ((i : Int) + 2).toNat < n - ((i : Int)).toNat
  omega
def zeroS : Array Value := #[.int .i64 0, .int .i64 0, .int .i64 0, .slice none 0 0, .slice none 0 0, .slice none 0 0]
def RDecRet (o : Option Dt) (w : World) (e : Ending) (w' : World) : Prop := Below w.heap.size w w' ∧ match o with
  | none => e = .returned (.tuple #[.agg #[.int .i64 0, .int .i64 0, .int .i64 0, .slice none 0 0, .slice none 0 0, .slice none 0 0], .bool false])
  | some t => ∃ x : SubV, SameD x (ofD t) ∧ x.At w' ∧ e = .returned (.tuple #[.agg #[.int .i64 x.s0, .int .i64 x.s1, .int .i64 x.s2, .slice x.ra x.rs.length x.rc, .slice x.sa x.ss.length x.sc, .slice x.wa x.ws.length x.wc], .bool true])
set_option maxHeartbeats 4000000 in
set_option maxRecDepth 100000 in
theorem refDecode_any (B : Nat) (a : Option Addr) (c : Nat) (bs : List Nat) (w : World) (h : BelowB B w a c bs) (hB : B ≤ w.heap.size) (hl : bs.length ≤ 9223372036854775807) :
    Calls Tryz.prog 22 #[.slice a bs.length c] w (RDecRet (dec bs) w) := by
  have HB := hid h
  clear h
  generalize hQ : dec bs = q
  have HQ := hid hQ
  clear hQ
  go_enter Tryz.func22, Tryz.ntmps22
  go_upto_region 2 with fail
  generalize hW0 : World.alloc _ _ = w0 at *
  have hA : Below w.heap.size w w0 := by rw [← hW0]; (repeat (first | with_reducible exact Below.refl _ _ | ((with_reducible refine Below.alloc1 ?_ ?_ _); (· first | omega | (simp; done) | (simp; omega))) | (with_reducible refine Below.drew ?_) | (with_reducible refine below_drewN' ?_ _) | ((with_reducible refine Below.setCell1 ?_ ?_ _); (· first | omega | (simp; done) | (simp; omega))) | ((with_reducible refine Below.after (by assumption) ?_ ?_); (· first | omega | (simp; done) | (simp; omega)))))
  have hz0 : w0.heap.size = w.heap.size + 1 + 1 := by rw [← hW0]; simp
  have r0 : w0.heap[w.heap.size]? = some (.cells #[.int .i64 0, .int .i64 0, .int .i64 0, .slice none 0 0, .slice none 0 0, .slice none 0 0] 25 (0, 0)) := by
    rw [← hW0]
    exact ((World.grownBy_alloc _ _ none).block _ (by simp) (by simp)).trans (heap_alloc_new w _)
  have s0 : w0.heap[w.heap.size + 1]? = some (.cells #[.int .i64 0, .int .i64 0, .int .i64 0, .slice none 0 0, .slice none 0 0, .slice none 0 0] 25 (0, 0)) := by
    rw [← hW0]
    have := heap_alloc_new (w.alloc (.cells #[.int .i64 0, .int .i64 0, .int .i64 0, .slice none 0 0, .slice none 0 0, .slice none 0 0] 25)) (.cells #[.int .i64 0, .int .i64 0, .int .i64 0, .slice none 0 0, .slice none 0 0, .slice none 0 0] 25)
    simpa using this
  have R0 := hid r0; have S0 := hid s0
  have HZ0 := hid hz0
  have hz0' : w.heap.size + 1 < w0.heap.size := by omega
  clear hz0
  have HB0 := hid (HB.out.below hA hB)
  clear hW0 r0 s0
  -- a failure's end: the result box gets zeros anew
  have HFAIL : Hid (∀ W, w0.grownBy W (some (w.heap.size + 1)) → q = none → RDecRet q w (.returned (.tuple #[.agg #[.int .i64 0, .int .i64 0, .int .i64 0, .slice none 0 0, .slice none 0 0, .slice none 0 0], .bool false])) ((((((W.setCell ⟨w.heap.size, 0, none⟩ (.int .i64 0)).setCell ⟨w.heap.size, 1, none⟩ (.int .i64 0)).setCell ⟨w.heap.size, 2, none⟩ (.int .i64 0)).setCell ⟨w.heap.size, 3, none⟩ (.slice none 0 0)).setCell ⟨w.heap.size, 4, none⟩ (.slice none 0 0)).setCell ⟨w.heap.size, 5, none⟩ (.slice none 0 0))) := hid fun W hb hq => by
    subst hq
    have hr := (hb.block _ (by omega) (fun e => by have := Option.some.inj e; omega)).trans R0.out
    have hs := K.set6 hr (.int .i64 0) (.int .i64 0) (.int .i64 0) (.slice none 0 0) (.slice none 0 0) (.slice none 0 0)
    exact ⟨(hA.grown hb hA.size (fun k hk => by cases hk; omega)).grown hs.2 (by have := hb.size; omega) (fun k hk => by cases hk; omega), rfl⟩
  go_upto_region 4 with fail
  go_loopw [0, 5, 6] (fun t0 t5 t6 wr => ∃ (i j m : Nat) (a1 : Option Addr) (c1 : Nat) (a2 : Option Addr) (c2 : Nat) (L : List Int) (l : List Nat), t6 = .int .i64 (i : Nat) ∧ t5 = .slice a1 j c1 ∧ t0 = .slice a2 m c2 ∧ i ≤ 3 ∧ Hid (L.length = j) ∧ Hid (j = i) ∧ Hid (l.length = m) ∧ Hid (l.length ≤ 9223372036854775807) ∧ Hid (getMany getNum i bs = some (L, l)) ∧ Hid (BelowB B wr a2 c2 l) ∧ Hid (wr.ownsRow w0.heap.size 2 1 (.slice a1 j c1) j (iCells L)) ∧ Below w0.heap.size w0 wr) (fun _ _ t6 _ => 3 - (intOf t6).toNat)
  case atStart => exact ⟨0, 0, _, _, _, _, _, [], bs, rfl, rfl, rfl, Nat.zero_le _, hid rfl, hid rfl, hid rfl, hid hl, hid rfl, hid (BelowB.below HB0.out (Below.alloc1 (Nat.le_refl _) (Below.refl w0.heap.size w0) _) (by omega)), hid (World.ownsRow_made w0 #[] 0 (Nat.le_refl _) (by unfold maxLen; omega) rfl), Below.alloc1 (Nat.le_refl _) (Below.refl _ _) _⟩
  case round =>
    obtain ⟨i, j, m, a1, c1, a2, c2, L, l, rfl, rfl, rfl, hi, HL, HJ, HM, HLL, HMM, HBL, HW, hb⟩ := hrel
    have hz := hb.size
    by_cases hlt : i < 3
    · have hlt' : (i : Int) < 3 := by omega
      have HG := getNum_any a2 c2 m l wr HM.out (HBL.out.bat (by omega) (by unfold maxLen; have := HLL.out; omega)) (by have := HLL.out; have := HM.out; omega)
      cases hv : getV 0 0 l with
      | none =>
        have hq : q = none := by
          rw [← HQ.out]
          refine num3_none ?_
          have : getMany getNum (i + 1) bs = none := by rw [getMany, HMM.out]; simp only; unfold getNum; rw [hv]; rfl
          have := many_none (k := 3 - (i + 1)) this
          rwa [show i + 1 + (3 - (i + 1)) = 3 by omega] at this
        have HF := hid (HFAIL.out wr ⟨hb.os, hb.tape, hb.output, hb.size, fun k hk _ => hb.block k hk⟩ hq)
        rw [hv] at HG
        have e : gotN l none = .tuple #[.int .i64 0, .int .i64 0] := rfl
        rw [e] at HG
        have hrr := (hb.block _ (by omega)).trans R0.out
        obtain ⟨y0, y1, y2, y3, y4, y5⟩ := box6 hrr
        have yf : ∀ j, wr.frozen? ⟨w.heap.size, j, none⟩ = false := fun j => by simp [World.frozen?, hrr]
        clear hv hrr e
        go_upto_region 6 with fail
        go_wp2_with (go_at_call 57; (with_reducible refine (HG).mono ?_); rintro e w' ⟨rfl, rfl⟩)
        exact bodyPost_ret (v := .tuple #[.agg #[.int .i64 0, .int .i64 0, .int .i64 0, .slice none 0 0, .slice none 0 0, .slice none 0 0], .bool false]) (by simp [results, Tryz.results22, go_sem, *]) rfl HF.out
      | some p =>
        obtain ⟨u, r⟩ := p
        obtain ⟨k, hk0, hkl, rfl⟩ := getV_drop _ _ _ _ _ hv
        rw [hv] at HG
        have e : gotN l (some (u, l.drop k)) = .tuple #[.int .i64 (zag u), .int .i64 (k : Nat)] := by
          show Value.tuple #[.int .i64 (zag u), .int .i64 ((l.length - (l.drop k).length : Nat) : Int)] = _
          have e2 : l.length - (l.drop k).length = k := by rw [List.length_drop]; omega
          rw [e2]
        rw [e] at HG
        have hgn : getNum l = some (zag u, l.drop k) := by unfold getNum; rw [hv]; rfl
        have HM2 : Hid (getMany getNum (i + 1) bs = some (L ++ [zag u], l.drop k)) := hid (by rw [getMany, HMM.out]; simp only; rw [hgn])
        have hk0' : ¬ (k : Int) = 0 := by omega
        clear e hv hgn
        generalize zag u = z at *
        obtain ⟨b2, o2, rfl⟩ := HBL.out.some (by intro h0; rw [h0] at hkl; simp at hkl; omega)
        have hkm : k ≤ m := by rw [← HM.out]; exact hkl
        have hmc : m ≤ c2 := by rw [← HM.out]; exact HBL.out.cap
        have hkc : k ≤ c2 := Nat.le_trans hkm hmc
        obtain ⟨a3, c3, w3, hrun, hown3, hb3⟩ := appI z HL.out HW.out hz (by have := HJ.out; omega)
        have hbw3 := hb.trans hb3
        have HBL4 := HBL.out.below (hb3.mono (by omega : B ≤ w0.heap.size)) (Nat.le_refl _)
        obtain ⟨k1, k2⟩ := HBL4.cut hkl
        have K3 : Hid (BelowB B w3 (if c2 = k then some ⟨b2, o2, none⟩ else some ⟨b2, o2 + k, none⟩) (c2 - k) (l.drop k)) := hid (by
          by_cases h : c2 = k
          · rw [if_pos h, h, Nat.sub_self]; exact k1 h
          · rw [if_neg h]; exact k2)
        have HW3 := hid hown3; have HRUN := hid hrun; have HBW3 := hid hbw3
        have HL3 : Hid ((L ++ [z]).length = j + 1) := hid (by rw [List.length_append, HL.out]; rfl)
        have HD8 : Hid ((l.drop k).length = m - k) := hid (by rw [List.length_drop, HM.out])
        have HD9 : Hid ((l.drop k).length ≤ 9223372036854775807) := hid (by rw [List.length_drop]; have := HLL.out; omega)
        have HJ3 : Hid (j + 1 = i + 1) := hid (by rw [HJ.out])
        clear hrun hown3 hb3 hbw3 HBL4 k1 k2 hkl
        go_upto_region 9 with (go_at_call 57; (with_reducible refine (HG).mono ?_); rintro e w' ⟨rfl, rfl⟩)
        go_wp2_with (at_builtin; refine Lib.wpList_append_run _ rfl _ _ _ _ rfl _ _ rfl rfl _ _ (HRUN.out _) ?_)
        go_roundw
        case rel => exact ⟨i + 1, j + 1, m - k, a3, c3, _, _, L ++ [z], l.drop k, by go_num, rfl, rfl, by omega, HL3, HJ3, HD8, HD9, HM2, K3, HW3, HBW3.out⟩
        case measure => first | (simp [intOf]; done) | (simp [intOf]; omega)
    · obtain rfl : i = 3 := by omega
      obtain ⟨n0, n1, n2, rfl⟩ : ∃ a b c, L = [a, b, c] := by
        have h3 : L.length = 3 := by rw [HL.out, HJ.out]
        match L, h3 with
        | [a, b, c], _ => exact ⟨a, b, c, rfl⟩
      have hj3 : j = 3 := HJ.out
      subst hj3
      rcases HW.out.2 with ⟨h1, h2⟩ | ⟨g, cap, cur, h1, hg, _⟩
      · omega
      cases h1
      have hcs := HW.out.cells (g := g) rfl
      have k0 : wr.cell? ⟨g, 0, none⟩ = some (.int .i64 n0) := hcs 0 _ rfl
      have k1 : wr.cell? ⟨g, 1, none⟩ = some (.int .i64 n1) := hcs 1 _ rfl
      have k2 : wr.cell? ⟨g, 2, none⟩ = some (.int .i64 n2) := hcs 2 _ rfl
      have hgS : ¬ g = w.heap.size + 1 := by omega
      have hSg : ¬ w.heap.size + 1 = g := by omega
      have s0 : TSd w0 wr (w.heap.size + 1) _ := ⟨⟨hb.os, hb.tape, hb.output, hb.size, fun k hk _ => hb.block k hk⟩, (hb.block _ hz0').trans S0.out⟩
      obtain ⟨s1, g1⟩ := s0.set 0 (.int .i64 n0)
      obtain ⟨s2, g2⟩ := s1.set 1 (.int .i64 n1)
      obtain ⟨s3, g3⟩ := s2.set 2 (.int .i64 n2)
      obtain ⟨x0, x1, x2, x3, x4, x5⟩ := box6 s0.t
      have xf : ∀ q, wr.frozen? ⟨w.heap.size + 1, q, none⟩ = false := fun q => by simp [World.frozen?, s0.t]
      have HBL4 := HBL.out.keepB (hb := fun b hb => ((g1.trans g2).trans g3).block b (by omega) (fun e => by have := Option.some.inj e; omega))
      have S3 := hid s3
      have HBL5 := hid HBL4
      clear hcs s0 s1 s2 s3 g1 g2 g3 HBL4 HBL HW
      obtain rfl : m = l.length := HM.out.symm
      go_upto_region 14 with fail
      generalize ((wr.setCell ⟨w.heap.size + 1, 0, none⟩ (.int .i64 n0)).setCell ⟨w.heap.size + 1, 1, none⟩ (.int .i64 n1)).setCell ⟨w.heap.size + 1, 2, none⟩ (.int .i64 n2) = w4 at *
      have hz4 := S3.out.fr.size
      have hP3 : parse bs = (parse2 l).map fun z => ((n0, n1, n2, z.1), z.2) := by rw [parse3, HMM.out]
      have HP3 := hid hP3
      clear k0 k1 k2 x0 x1 x2 x3 x4 x5 xf hP3 HMM hb hz hgS hSg
      go_wp2_with fail
      refine (take_any B 16 1 a2 c2 l w4 HBL5.out (by omega) HLL.out (by decide) (by decide)).mono ?_
      rintro e w5 ⟨hb5, h5⟩
      rw [tk_row] at h5
      have hz5 := hb5.size
      have S5 := S3.out.below hb5 hz4 (by omega)
      cases ht1 : getRow 16 getKey l with
      | none =>
        have hq : q = none := by rw [← HQ.out]; unfold dec; rw [HP3.out]; unfold parse2; rw [both_none ht1]; rfl
        have HF := hid (HFAIL.out w5 S5.fr hq)
        rw [ht1] at h5
        simp only at h5
        subst h5
        have hrr := (S5.fr.block _ (by omega) (fun e => by have := Option.some.inj e; omega)).trans R0.out
        obtain ⟨y0, y1, y2, y3, y4, y5⟩ := box6 hrr
        have yf : ∀ j, w5.frozen? ⟨w.heap.size, j, none⟩ = false := fun j => by simp [World.frozen?, hrr]
        clear hrr ht1 S5
        go_wp2_with fail
        exact bodyPost_ret (v := .tuple #[.agg #[.int .i64 0, .int .i64 0, .int .i64 0, .slice none 0 0, .slice none 0 0, .slice none 0 0], .bool false]) (by simp [results, Tryz.results22, go_sem, *]) rfl HF.out
      | some p =>
      obtain ⟨rs, l2⟩ := p
      rw [ht1] at h5
      obtain ⟨ar, cr, a6, c6, rfl, hown5, HBL6⟩ := h5
      have hll2 : l2.length ≤ 9223372036854775807 := by
        have h1 := ((row_good 16 (by decide) key_good).bwd l rs l2 ht1 HBL5.out.lt).1
        have h2 := congrArg List.length h1
        rw [List.length_append] at h2
        have := HLL.out
        omega
      have HT1 := hid ht1; have HS5 := hid S5; have HO5 := hid hown5; have HB6 := hid HBL6
      have hz45 : w0.heap.size ≤ w5.heap.size := by omega
      have HDR := hid ((row_good 16 (by decide) key_good).bwd l rs l2 ht1 HBL5.out.lt).2
      clear ht1 S5 hown5 HBL6 hb5
      go_upto_region 17 with fail
      go_wp2_with fail
      refine (take_any B 8 2 a6 c6 l2 w5 HB6.out (by omega) hll2 (by decide) (by decide)).mono ?_
      rintro e w6 ⟨hb6, h6⟩
      have hz6 := hb6.size
      have S6 := HS5.out.below hb6 hz45 (by omega)
      have o5 := HO5.out.kept (K.grown_of_below hb6) (by cases (Value.slice ar rs.length cr).ownBlock <;> simp)
      have hrow := tk_sp 8 l2
      cases ht2 : tk 8 2 l2 with
      | none =>
        have hq : q = none := by rw [← HQ.out]; unfold dec; rw [HP3.out]; unfold parse2; rw [both_map HT1.out, both_none (p := getRow 8 getSp) (by rw [hrow, ht2]; rfl)]; rfl
        have HF := hid (HFAIL.out w6 S6.fr hq)
        rw [ht2] at h6
        simp only at h6
        subst h6
        have hrr := (S6.fr.block _ (by omega) (fun e => by have := Option.some.inj e; omega)).trans R0.out
        obtain ⟨y0, y1, y2, y3, y4, y5⟩ := box6 hrr
        have yf : ∀ j, w6.frozen? ⟨w.heap.size, j, none⟩ = false := fun j => by simp [World.frozen?, hrr]
        clear hrr ht2 S6
        go_wp2_with fail
        exact bodyPost_ret (v := .tuple #[.agg #[.int .i64 0, .int .i64 0, .int .i64 0, .slice none 0 0, .slice none 0 0, .slice none 0 0], .bool false]) (by simp [results, Tryz.results22, go_sem, *]) rfl HF.out
      | some p =>
      obtain ⟨es, l3⟩ := p
      rw [ht2] at h6 hrow
      simp only [Option.map_some] at hrow
      obtain ⟨ae, ce, a7, c7, rfl, hown6, HBL7⟩ := h6
      have hbw2 := (row_good 8 (by decide) (both_good key_good key_good)).bwd l2 (prs es) l3 hrow HB6.out.lt
      have hll3 : l3.length ≤ 9223372036854775807 := by
        have h2 := congrArg List.length hbw2.1
        rw [List.length_append] at h2
        omega
      have hes : ∃ k, es.length = k * 2 ∧ k ≤ 8 := by
        unfold tk at ht2
        cases hcn : getCount 8 l2 with
        | none => rw [hcn] at ht2; cases ht2
        | some p =>
          obtain ⟨k, r⟩ := p
          rw [hcn] at ht2
          exact ⟨k, many_len ht2, count_le hcn⟩
      have HT2 := hid hrow; have HS6 := hid S6; have HO5' := hid o5; have HO6 := hid hown6; have HB7 := hid HBL7
      have HDS := hid hbw2.2
      have hz56 : w0.heap.size ≤ w6.heap.size := by omega
      clear ht2 hrow S6 o5 hown6 HBL7 hb6 hbw2 HO5 HS5 HB6 hll2
      go_upto_region 20 with fail
      go_wp2_with fail
      refine (take_any B 16 1 a7 c7 l3 w6 HB7.out (by omega) hll3 (by decide) (by decide)).mono ?_
      rintro e w7 ⟨hb7, h7⟩
      rw [tk_row] at h7
      have hz7 := hb7.size
      have S7 := HS6.out.below hb7 hz56 (by omega)
      have o5 := HO5'.out.kept (K.grown_of_below hb7) (by cases (Value.slice ar rs.length cr).ownBlock <;> simp)
      have o6 := HO6.out.kept (K.grown_of_below hb7) (by cases (Value.slice ae es.length ce).ownBlock <;> simp)
      cases ht3 : getRow 16 getKey l3 with
      | none =>
        have hq : q = none := by rw [← HQ.out]; unfold dec; rw [HP3.out]; unfold parse2; rw [both_map HT1.out, both_map HT2.out, ht3]; rfl
        have HF := hid (HFAIL.out w7 S7.fr hq)
        rw [ht3] at h7
        simp only at h7
        subst h7
        have hrr := (S7.fr.block _ (by omega) (fun e => by have := Option.some.inj e; omega)).trans R0.out
        obtain ⟨y0, y1, y2, y3, y4, y5⟩ := box6 hrr
        have yf : ∀ j, w7.frozen? ⟨w.heap.size, j, none⟩ = false := fun j => by simp [World.frozen?, hrr]
        clear hrr ht3 S7
        go_wp2_with fail
        exact bodyPost_ret (v := .tuple #[.agg #[.int .i64 0, .int .i64 0, .int .i64 0, .slice none 0 0, .slice none 0 0, .slice none 0 0], .bool false]) (by simp [results, Tryz.results22, go_sem, *]) rfl HF.out
      | some p =>
      obtain ⟨ws, l4⟩ := p
      rw [ht3] at h7
      obtain ⟨aw, cw, a8, c8, rfl, hown7, HBL8⟩ := h7
      have hpar : parse bs = some ((n0, n1, n2, rs, prs es, ws), l4) := by rw [HP3.out]; unfold parse2; rw [both_map HT1.out, both_map HT2.out, ht3]; rfl
      have hqd : q = if l4 = [] ∧ K.SubV.check (ofD (n0, n1, n2, rs, prs es, ws)) = 0 then some (n0, n1, n2, rs, prs es, ws) else none := by rw [← HQ.out]; unfold dec; rw [hpar]
      by_cases hl4 : l4 = []
      · subst hl4
        have hx3 : w7.cell? ⟨w.heap.size + 1, 3, none⟩ = some (.slice none 0 0) := S7.cell 3
        have hx5 : w7.cell? ⟨w.heap.size + 1, 5, none⟩ = some (.slice none 0 0) := S7.cell 5
        have xf : ∀ q, w7.frozen? ⟨w.heap.size + 1, q, none⟩ = false := fun q => S7.fz q
        obtain ⟨s8, g8⟩ := S7.set 3 (.slice ar rs.length cr)
        obtain ⟨s9, g9⟩ := s8.set 5 (.slice aw ws.length cw)
        have g89 := g8.trans g9
        have O1 := hid (own_grown o5 g89 (by omega)); have O2 := hid (own_grown o6 g89 (by omega)); have O3 := hid (own_grown hown7 g89 (by omega))
        have S9 : Hid (TSd w0 ((w7.setCell ⟨w.heap.size + 1, 3, none⟩ (.slice ar rs.length cr)).setCell ⟨w.heap.size + 1, 5, none⟩ (.slice aw ws.length cw)) (w.heap.size + 1) #[.int .i64 n0, .int .i64 n1, .int .i64 n2, .slice ar rs.length cr, .slice none 0 0, .slice aw ws.length cw]) := hid s9
        have HQD := hid hqd
        have HDW := hid ((row_good 16 (by decide) key_good).bwd l3 ws [] ht3 HB7.out.lt).2
        clear S7 s8 s9 g8 g9 g89 o5 o6 hown7 HBL8 hqd hpar ht3 HO5' HO6 HB7 HS6 hb7 HBL5
        obtain ⟨ke, hke, hke8⟩ := hes
        have HKE := hid hke
        clear hke
        go_upto_region 25 with fail
        generalize (w7.setCell ⟨w.heap.size + 1, 3, none⟩ (.slice ar rs.length cr)).setCell ⟨w.heap.size + 1, 5, none⟩ (.slice aw ws.length cw) = w8 at *
        clear hx3 hx5 xf
        have hz8 := S9.out.fr.size
        have HL1 : Hid (∀ g, (Value.slice ar rs.length cr).ownBlock = some g → g < w8.heap.size) := hid fun g hg => (O1.out.lt g hg).2
        have HL2 : Hid (∀ g, (Value.slice ae es.length ce).ownBlock = some g → g < w8.heap.size) := hid fun g hg => (O2.out.lt g hg).2
        have HL3 : Hid (∀ g, (Value.slice aw ws.length cw).ownBlock = some g → g < w8.heap.size) := hid fun g hg => (O3.out.lt g hg).2
        go_upto_region 26 with fail
        go_loopw [18] (fun tv wr => ∃ (i k j : Nat) (a : Option Addr) (c : Nat), tv = .int .i64 (i : Nat) ∧ k ≤ ke ∧ Hid (i = k * 2) ∧ Hid (j = k) ∧ Hid (TSd w0 wr (w.heap.size + 1) #[.int .i64 n0, .int .i64 n1, .int .i64 n2, .slice ar rs.length cr, .slice a j c, .slice aw ws.length cw]) ∧ Hid (wr.ownsRow w8.heap.size 50 4 (.slice a j c) j (N.vCells ((prs (es.take i)).map spOf))) ∧ Hid (w8.heap.size ≤ wr.heap.size) ∧ Hid (wr.ownsRow w4.heap.size 33 1 (.slice ar rs.length cr) rs.length (K.fCells rs)) ∧ Hid (wr.ownsRow w5.heap.size 33 1 (.slice ae es.length ce) es.length (K.fCells es)) ∧ Hid (wr.ownsRow w6.heap.size 33 1 (.slice aw ws.length cw) ws.length (K.fCells ws))) (fun tv _ => es.length - (intOf tv).toNat)
        case atStart => exact ⟨0, 0, 0, none, 0, rfl, Nat.zero_le _, hid rfl, hid rfl, S9, hid ⟨rfl, .inl ⟨rfl, rfl⟩⟩, hid (Nat.le_refl _), O1, O2, O3⟩
        case round =>
          obtain ⟨i, k, j, a, c, rfl, hk, HI, HJ, HS, HW, HZ, HO1, HO2, HO3⟩ := hrel
          by_cases hlt : k < ke
          · have hil : i + 1 < es.length := by rw [HI.out, HKE.out]; omega
            have hil0 : i < es.length := by omega
            have hi16 : i ≤ 100 := by rw [HI.out]; omega
            have HWI : Hid (wrap64 ((i : Int) + 1) = (i : Int) + 1 ∧ wrap64 ((i : Int) + 2) = (i : Int) + 2) := hid (wrap_two hi16)
            clear hi16
            have hlt' : (i : Int) < (es.length : Int) := by omega
            rcases HO2.out.2 with ⟨_, h2⟩ | ⟨g, cap, cur, h1, hg, _⟩
            · omega
            cases h1
            have hcs := HO2.out.cells (g := g) rfl
            have hlo : es[i]? = some (es[i]?.getD 0) := by rw [List.getElem?_eq_getElem hil0]; rfl
            have hhi : es[i + 1]? = some (es[i + 1]?.getD 0) := by rw [List.getElem?_eq_getElem hil]; rfl
            generalize es[i]?.getD 0 = lo at *
            generalize es[i + 1]?.getD 0 = hh at *
            have k0 := hcs i (.float .f64 lo) (by unfold K.fCells; rw [List.getElem?_map, hlo]; rfl)
            have k1 := hcs (i + 1) (.float .f64 hh) (by unfold K.fCells; rw [List.getElem?_map, hhi]; rfl)
            rw [K.addr0] at k0 k1
            have hgl := (HO2.out.lt g rfl).2
            have htake : es.take (i + 2) = es.take i ++ [lo, hh] := by
              rw [List.take_add_one, List.take_add_one, hlo, hhi, List.append_assoc]; rfl
            have hprs : prs (es.take (i + 2)) = prs (es.take i) ++ [(lo, hh)] := by
              rw [htake]; exact prs_snoc k _ _ _ (by rw [List.length_take, HI.out, HKE.out]; omega)
            have hplen : ((prs (es.take i)).map spOf).length = j := by
              rw [List.length_map, prs_len k _ (by rw [List.length_take, HI.out, HKE.out]; omega), HJ.out]
            obtain ⟨Y0, hY0⟩ : ∃ Y : World, Y = { wr with drawn := wr.drawn + 1 } := ⟨_, rfl⟩
            have hb0 : Below wr.heap.size wr Y0 := by rw [hY0]; exact Below.drew (Below.refl _ wr)
            have z0 : Y0.heap.size = wr.heap.size := by rw [hY0]
            have hzz := HZ.out
            have hTl := HS.out.lt
            have d0 := HS.out.below hb0 HS.out.fr.size hTl
            have ww0 := HW.out.kept (K.grown_of_below hb0) (by cases (Value.slice a j c).ownBlock <;> simp)
            have v1 := HO1.out.kept (K.grown_of_below hb0) (by cases (Value.slice ar rs.length cr).ownBlock <;> simp)
            have v2 := HO2.out.kept (K.grown_of_below hb0) (by cases (Value.slice (some ⟨g, 0, none⟩) es.length ce).ownBlock <;> simp)
            have v3 := HO3.out.kept (K.grown_of_below hb0) (by cases (Value.slice aw ws.length cw).ownBlock <;> simp)
            obtain ⟨a', c', Y2, hrun, hown2, hb2⟩ := appSp (spOf (lo, hh)) hplen ww0 (by omega) (by have := HJ.out; omega)
            have d1 : TSd w0 (Y0.alloc (.cells #[.float .f64 lo, .float .f64 hh, .bool false, .bool false] 50)) (w.heap.size + 1) _ := d0.below (Below.alloc1 (Nat.le_refl _) (Below.refl _ Y0) _) (by omega) (by omega)
            have d2 := d0.below hb2 (by omega) (by omega)
            obtain ⟨d3, g3⟩ := d2.set 4 (.slice a' (j + 1) c')
            have ww3 := own_grown hown2 g3 (by omega)
            have u1 := own_grown (own_at v1 fun g hg => hb2.block g (HL1.out g hg)) g3 (by omega)
            have u2 := own_grown (own_at v2 fun g hg => hb2.block g (HL2.out g hg)) g3 (by omega)
            have u3 := own_grown (own_at v3 fun g hg => hb2.block g (HL3.out g hg)) g3 (by omega)
            have zz3 : w8.heap.size ≤ (Y2.setCell ⟨w.heap.size + 1, 4, none⟩ (.slice a' (j + 1) c')).heap.size := by have h1 := g3.size; have h2 := hb2.size; omega
            have p0 := d0.cell 4; have p1 := d1.cell 4; have p2 := d2.cell 4; have pf := d2.fz 4
            simp only [List.getElem?_toArray, List.getElem?_cons_succ, List.getElem?_cons_zero] at p0 p1 p2
            have y0 := (hb0.cell (p := ⟨g, i, none⟩) hgl).trans k0
            have y1 := (hb0.cell (p := ⟨g, i + 1, none⟩) hgl).trans k1
            have Y0C := hid y0; have Y1C := hid y1; have P0 := hid p0; have P1 := hid p1; have P2 := hid p2; have PF := hid pf
            have HRUN := hid hrun; have HY0 := hid hY0; have HPRS := hid hprs
            have HI2 : Hid (i + 2 = (k + 1) * 2) := hid (by have := HI.out; omega)
            have HJ2 : Hid (j + 1 = k + 1) := hid (by rw [HJ.out])
            have HD3 := hid d3; have HW3 := hid ww3; have HZ3 := hid zz3; have U1 := hid u1; have U2 := hid u2; have U3 := hid u3
            obtain ⟨Y3, hY3⟩ : ∃ Y : World, Y = Y2.setCell ⟨w.heap.size + 1, 4, none⟩ (.slice a' (j + 1) c') := ⟨_, rfl⟩
            have HY3 := hid hY3
            rw [← hY3] at HD3 HW3 HZ3 U1 U2 U3
            clear hcs hlo hhi k0 k1 htake hprs hplen hY0 hb0 z0 d0 ww0 v1 v2 v3 hrun hown2 hb2 d1 d2 d3 g3 ww3 u1 u2 u3 zz3 p0 p1 p2 pf y0 y1 hY3 hzz
            go_upto_region 28 with fail
            refine wp_region_chain (fun q => [Value.pointer (some ⟨w.heap.size + 1, 4, none⟩), .slice a j c, .slice (some ⟨g, 0, none⟩) es.length ce, .int .i64 (i : Nat), .pointer (some ⟨g, i, none⟩), .float .f64 lo, .slice (some ⟨g, 0, none⟩) es.length ce, .int .i64 (i : Nat), .int .i64 ((i : Int) + 1), .pointer (some ⟨g, i + 1, none⟩), .float .f64 hh, .agg #[.float .f64 lo, .float .f64 hh, .bool false, .bool false], .slice (some ⟨Y0.heap.size, 0, none⟩) 1 1, .slice a' (j + 1) c', .pointer (some ⟨w.heap.size + 1, 4, none⟩)].getD q undef) (fun q X => X = [Y0, Y0.alloc (.cells #[.float .f64 lo, .float .f64 hh, .bool false, .bool false] 50), Y2, Y3].getD q Y0) (fun _ _ => False) [12, 13, 15] rfl (by kernel_rfl) (by kernel_rfl) (by decide) (by decide) HY0.out.symm ?_ ?_ ?_
            · simp only [StepsC, List.nil_append, List.cons_append]
              refine ⟨?zp0, ?zl1, ?zp2, ?zp3, ?zp4, ?zl5, ?zp6, ?zp7, ?zp8, ?zp9, ?zlh, ?zp11, ?zbs, ?zap, ?zp14, ?zst, trivial⟩
              case zl1 =>
                intro jj X g1 g2 hx
                have hj : jj = 0 ∨ jj = 1 := by have : jj ≤ 1 := Nat.le_trans g2 (by decide +kernel); omega
                have c4 : X.cell? ⟨w.heap.size + 1, 4, none⟩ = some (.slice a j c) := by
                  rw [hx]
                  rcases hj with rfl | rfl
                  · exact P0.out
                  · exact P1.out
                generalize hR : (fun v w' => (_ → v = _) ∧ _) = RR
                have HR := hid hR
                have HXX := hid hx
                clear hR g1 g2 hx
                try simp only [putsFrom, Act.put, List.setIfInBounds_toArray, List.set_cons_zero, List.set_cons_succ, Nat.zero_add, Nat.reduceAdd, List.getD_cons_zero, List.getD_cons_succ]
                go_wp2_with fail
                have hR := HR.out
                subst hR
                exact ⟨rfl, fun _ => rfl, HXX.out⟩
              case zl5 =>
                intro jj X g1 g2 hx
                obtain rfl : jj = 0 := Nat.le_zero.1 (Nat.le_trans g2 (by decide +kernel))
                have c4 : X.cell? ⟨g, i, none⟩ = some (.float .f64 lo) := by rw [hx]; exact Y0C.out
                generalize hR : (fun v w' => (_ → v = _) ∧ _) = RR
                have HR := hid hR
                have HXX := hid hx
                clear hR g1 g2 hx
                try simp only [putsFrom, Act.put, List.setIfInBounds_toArray, List.set_cons_zero, List.set_cons_succ, Nat.zero_add, Nat.reduceAdd, List.getD_cons_zero, List.getD_cons_succ]
                go_wp2_with fail
                have hR := HR.out
                subst hR
                exact ⟨rfl, fun _ => rfl, HXX.out⟩
              case zlh =>
                intro jj X g1 g2 hx
                obtain rfl : jj = 0 := Nat.le_zero.1 (Nat.le_trans g2 (by decide +kernel))
                have c4 : X.cell? ⟨g, i + 1, none⟩ = some (.float .f64 hh) := by rw [hx]; exact Y1C.out
                generalize hR : (fun v w' => (_ → v = _) ∧ _) = RR
                have HR := hid hR
                have HXX := hid hx
                clear hR g1 g2 hx
                try simp only [putsFrom, Act.put, List.setIfInBounds_toArray, List.set_cons_zero, List.set_cons_succ, Nat.zero_add, Nat.reduceAdd, List.getD_cons_zero, List.getD_cons_succ]
                go_wp2_with fail
                have hR := HR.out
                subst hR
                exact ⟨rfl, fun _ => rfl, HXX.out⟩
              case zbs =>
                intro jj X g1 g2 hx
                obtain rfl : jj = 0 := Nat.le_zero.1 (Nat.le_trans g2 (by decide +kernel))
                obtain rfl : X = Y0 := hx
                generalize hR : (fun v w' => (_ → v = _) ∧ _) = RR
                have HR := hid hR
                clear hR g1 g2
                simp only [putsFrom, Act.put, List.setIfInBounds_toArray, List.set_cons_zero, List.set_cons_succ, Nat.zero_add, Nat.reduceAdd, List.getD_cons_zero, List.getD_cons_succ]
                go_wp2_with fail
                have hR := HR.out
                subst hR
                exact ⟨rfl, fun _ => rfl, rfl⟩
              case zap =>
                intro jj X g1 g2 hx
                obtain rfl : jj = 1 := Nat.le_antisymm (Nat.le_trans g2 (by decide +kernel)) (Nat.le_trans (by decide +kernel) g1)
                obtain rfl : X = Y0.alloc (.cells #[.float .f64 lo, .float .f64 hh, .bool false, .bool false] 50) := hx
                generalize hR : (fun v w' => (_ → v = _) ∧ _) = RR
                have HR := hid hR
                clear hR g1 g2
                simp only [putsFrom, Act.put, List.setIfInBounds_toArray, List.set_cons_zero, List.set_cons_succ, Nat.zero_add, Nat.reduceAdd, List.getD_cons_zero, List.getD_cons_succ]
                go_wp2_with (at_builtin; refine Lib.wpList_append_run _ rfl _ _ _ _ rfl _ _ rfl rfl _ _ (HRUN.out _) ?_)
                have hR := HR.out
                subst hR
                exact ⟨rfl, fun _ => rfl, rfl⟩
              case zst =>
                intro jj X g1 g2 hx
                obtain rfl : jj = 2 := Nat.le_antisymm (Nat.le_trans g2 (by decide +kernel)) (Nat.le_trans (by decide +kernel) g1)
                obtain rfl : X = Y2 := hx
                have k3 := P2.out; have f3 := PF.out
                generalize hR : (fun v w' => (_ → v = _) ∧ _) = RR
                have HR := hid hR
                clear hR g1 g2
                simp only [putsFrom, Act.put, List.setIfInBounds_toArray, List.set_cons_zero, List.set_cons_succ, Nat.zero_add, Nat.reduceAdd, List.getD_cons_zero, List.getD_cons_succ]
                go_wp2_with fail
                have hR := HR.out
                subst hR
                exact ⟨rfl, fun h => absurd rfl h, HY3.out.symm⟩
              case zp8 =>
                intro jj X g1 g2 hx
                have hwi := HWI.out.1
                generalize hR : (fun v w' => (_ → v = _) ∧ _) = RR
                have HR := hid hR
                have HXX := hid hx
                clear hR g1 g2 hx
                try simp only [putsFrom, Act.put, List.setIfInBounds_toArray, List.set_cons_zero, List.set_cons_succ, Nat.zero_add, Nat.reduceAdd, List.getD_cons_zero, List.getD_cons_succ]
                go_wp2_with fail
                have hR := HR.out
                subst hR
                exact ⟨rfl, fun _ => rfl, HXX.out⟩
              all_goals
                intro jj X g1 g2 hx
                generalize hR : (fun v w' => (_ → v = _) ∧ _) = RR
                have HR := hid hR
                have HXX := hid hx
                clear hR g1 g2 hx
                try simp only [putsFrom, Act.put, List.setIfInBounds_toArray, List.set_cons_zero, List.set_cons_succ, Nat.zero_add, Nat.reduceAdd, List.getD_cons_zero, List.getD_cons_succ]
                go_wp2_with fail
                have hR := HR.out
                subst hR
                exact ⟨rfl, fun _ => rfl, HXX.out⟩
            · intro X hx
              obtain rfl : X = Y3 := hx
              simp only [putsFrom, Act.put, List.setIfInBounds_toArray, List.set_cons_zero, List.set_cons_succ, Nat.zero_add, Nat.reduceAdd, List.getD_cons_zero, List.getD_cons_succ]
              clear hgl hTl hil0 hlt' HY0 HY3 HRUN P0 P1 P2 PF Y0C Y1C
              go_wp2_with fail
              go_roundw
              case rel => exact ⟨i + 2, k + 1, j + 1, a', c', congrArg (Value.int .i64) (HWI.out.2.trans (by omega)), by omega, HI2, HJ2, HD3, hid (by rw [HPRS.out, List.map_append]; exact HW3.out), HZ3, U1, U2, U3⟩
              case measure =>
                rw [HWI.out.2]
                exact meas2 hil
            · exact fun _ _ _ _ hx => hx.elim
          · obtain rfl : k = ke := by omega
            have hie : i = es.length := by rw [HI.out, HKE.out]
            subst hie
            have hge : ¬ (es.length : Int) < (es.length : Int) := by omega
            have HW' : Hid (wr.ownsRow w8.heap.size 50 4 (.slice a j c) j (N.vCells ((prs es).map spOf))) := hid (by have := HW.out; rwa [List.take_length] at this)
            have hpl : ((prs es).map spOf).length = j := by rw [List.length_map, prs_len k _ HKE.out, HJ.out]
            obtain ⟨L2, hL2⟩ : ∃ L2, L2 = (prs es).map spOf := ⟨_, rfl⟩
            rw [← hL2] at HW' hpl
            subst hpl
            have kd : ∀ y, KeyD y → y < 2 ^ 64 := fun y hy => by rw [← hy]; exact cbits_lt y
            have hl8 : L2.length ≤ 8 := by rw [hL2, List.length_map]; exact HDS.out.1
            have A10 : SubV.At ⟨n0, n1, n2, ar, cr, rs, a, c, L2, aw, cw, ws⟩ wr :=
              ⟨K.own_fat rfl HO1.out (Nat.le_trans HDR.out.1 (by decide)) (fun y hy => kd y (HDR.out.2 y hy)),
               N.own_satV rfl HW'.out (Nat.le_trans hl8 (by decide)) (fun i hi => by
                have hs := List.getElem_mem hi
                have hs2 : L2[i] ∈ (prs es).map spOf := hL2 ▸ hs
                obtain ⟨p, hp1, hp2⟩ := List.mem_map.1 hs2
                rw [List.getElem?_eq_getElem hi, Option.getD_some, ← hp2]
                exact ⟨kd _ (HDS.out.2 p hp1).1, kd _ (HDS.out.2 p hp1).2⟩),
               K.own_fat rfl HO3.out (Nat.le_trans HDW.out.1 (by decide)) (fun y hy => kd y (HDW.out.2 y hy))⟩
            have hsame : SameD ⟨n0, n1, n2, ar, cr, rs, a, c, L2, aw, cw, ws⟩ (ofD (n0, n1, n2, rs, prs es, ws)) := ⟨rfl, rfl, rfl, rfl, hL2, rfl⟩
            have HC : Calls Tryz.prog 18 #[.agg #[.int .i64 n0, .int .i64 n1, .int .i64 n2, .slice ar rs.length cr, .slice a L2.length c, .slice aw ws.length cw]] wr (Ret (.int .i64 (K.SubV.check (ofD (n0, n1, n2, rs, prs es, ws)))) wr) := by
              have h := K.refCheck_any ⟨n0, n1, n2, ar, cr, rs, a, c, L2, aw, cw, ws⟩ wr A10
              rw [hsame.check] at h
              exact h
            have HHC := hid HC; have HA10 := hid A10; have HSAME := hid hsame
            have AB : Hid (Above ⟨n0, n1, n2, ar, cr, rs, a, c, L2, aw, cw, ws⟩ w0.heap.size) := hid fun p hp => by
              rcases hp with hp | hp | hp
              · exact Nat.le_trans hz4 (own_above HO1.out p hp)
              · exact Nat.le_trans hz8 (own_above HW'.out p hp)
              · exact Nat.le_trans hz56 (own_above HO3.out p hp)
            clear HC A10 hsame kd hL2 HW HW'
            obtain ⟨x0, x1, x2, x3, x4, x5⟩ := box6 HS.out.t
            generalize K.SubV.check (ofD (n0, n1, n2, rs, prs es, ws)) = cc at *
            go_upto_region 29 with fail
            go_wp2_with fail
            refine HHC.out.mono ?_
            rintro e w9 ⟨rfl, hb9⟩
            have hzr := HS.out.fr.size
            have S9' := HS.out.below hb9 hzr HS.out.lt
            have A9 := HA10.out.below hb9
            have hz9 := S9'.fr.size
            have hrr := (S9'.fr.block _ (by omega) (fun e => by have := Option.some.inj e; omega)).trans R0.out
            clear x0 x1 x2 x3 x4 x5
            obtain ⟨x0, x1, x2, x3, x4, x5⟩ := box6 S9'.t
            obtain ⟨y0, y1, y2, y3, y4, y5⟩ := box6 hrr
            have yf : ∀ j, w9.frozen? ⟨w.heap.size, j, none⟩ = false := fun j => by simp [World.frozen?, hrr]
            have hqd := HQD.out
            by_cases hc : cc = 0
            · rw [if_pos ⟨by first | trivial | rfl, hc⟩] at hqd
              subst hqd
              subst hc
              have hs9 := K.set6 hrr (.int .i64 n0) (.int .i64 n1) (.int .i64 n2) (.slice ar rs.length cr) (.slice a L2.length c) (.slice aw ws.length cw)
              have HR := hid ((hA.grown S9'.fr hA.size (fun k hk => by cases hk; omega)).grown hs9.2 (by omega) (fun k hk => by cases hk; omega))
              have HX := hid (at_grown A9 AB.out hs9.2 (by omega))
              clear hs9 hrr S9' A9 hb9
              go_wp2_with fail
              exact bodyPost_ret (v := .tuple #[.agg #[.int .i64 n0, .int .i64 n1, .int .i64 n2, .slice ar rs.length cr, .slice a L2.length c, .slice aw ws.length cw], .bool true]) (by simp [results, Tryz.results22, go_sem, *]) rfl ⟨HR.out, ⟨n0, n1, n2, ar, cr, rs, a, c, L2, aw, cw, ws⟩, HSAME.out, HX.out, rfl⟩
            · have hq : q = none := by rw [hqd, if_neg (fun h => hc h.2)]
              have HF := hid (HFAIL.out w9 S9'.fr hq)
              have hcb : (cc != 0) = true := by simpa using hc
              clear hrr S9' A9 hb9 hqd
              go_wp2_with fail
              exact bodyPost_ret (v := .tuple #[.agg #[.int .i64 0, .int .i64 0, .int .i64 0, .slice none 0 0, .slice none 0 0, .slice none 0 0], .bool false]) (by simp [results, Tryz.results22, go_sem, *]) rfl HF.out
      · have hq : q = none := by rw [hqd, if_neg (fun h => hl4 h.1)]
        have hlp : 0 < (l4.length : Int) := by have := List.length_pos_iff.2 hl4; omega
        have HF := hid (HFAIL.out w7 S7.fr hq)
        have hrr := (S7.fr.block _ (by omega) (fun e => by have := Option.some.inj e; omega)).trans R0.out
        obtain ⟨y0, y1, y2, y3, y4, y5⟩ := box6 hrr
        have yf : ∀ j, w7.frozen? ⟨w.heap.size, j, none⟩ = false := fun j => by simp [World.frozen?, hrr]
        generalize l4.length = m4 at *
        clear hrr ht3 S7 hqd hpar hown7 HBL8 o5 o6
        go_wp2_with fail
        exact bodyPost_ret (v := .tuple #[.agg #[.int .i64 0, .int .i64 0, .int .i64 0, .slice none 0 0, .slice none 0 0, .slice none 0 0], .bool false]) (by simp [results, Tryz.results22, go_sem, *]) rfl HF.out
end Go.Proofs.YtgpkfgeflcdbcaaGreat.P
