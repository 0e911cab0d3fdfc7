/- The document's take. -/
import Derived.Test.YtgpkfgeflcdbcaaGreatPI
import Derived.Test.YtgpkfgeflcdbcaaGreatMPD
namespace Go.Proofs.YtgpkfgeflcdbcaaGreat.P
set_option linter.unusedVariables false
open Go.RowKit Fl

theorem getV_drop : ∀ (b : List Nat) (i u x : Nat) (r : List Nat), getV i u b = some (x, r) → ∃ k, 0 < k ∧ k ≤ b.length ∧ r = b.drop k
  | [], i, u, x, r, h => by simp [getV] at h
  | c :: b, i, u, x, r, h => by
    rw [getV] at h
    by_cases h1 : (i = 9 ∧ 1 < c) ∨ (0 < i ∧ c = 0)
    · rw [if_pos h1] at h; cases h
    · rw [if_neg h1] at h
      by_cases h2 : c < 128
      · rw [if_pos h2] at h; cases h; exact ⟨1, by omega, by simp, rfl⟩
      · rw [if_neg h2] at h
        obtain ⟨k, h3, h4, h5⟩ := getV_drop b _ _ _ _ h
        exact ⟨k + 1, by omega, by simp; omega, by rw [h5]; rfl⟩
theorem BelowB.cut {B k c : Nat} {w : World} {b o : Nat} {bs : List Nat} (h : BelowB B w (some ⟨b, o, none⟩) c bs) (hk : k ≤ bs.length) :
    (c = k → BelowB B w (some ⟨b, o, none⟩) 0 (bs.drop k)) ∧ BelowB B w (some ⟨b, o + k, none⟩) (c - k) (bs.drop k) := by
  have hc := h.cap
  refine ⟨fun e => ⟨.inl (List.drop_eq_nil_of_le (by omega)), fun x hx => h.lt x (List.mem_of_mem_drop hx), by rw [List.length_drop]; omega⟩, ⟨?_, fun x hx => h.lt x (List.mem_of_mem_drop hx), by rw [List.length_drop]; omega⟩⟩
  rcases h.row with h0 | ⟨b', o', h1, h2, h3⟩
  · exact .inl (by rw [h0]; simp)
  · cases h1
    refine .inr ⟨b, o + k, rfl, h2, fun i hi => ?_⟩
    rw [List.length_drop] at hi
    rw [List.getElem?_drop, Nat.add_assoc]
    exact h3 (k + i) (by omega)
theorem BelowB.below {B C : Nat} {w w' : World} {a : Option Addr} {c : Nat} {bs : List Nat} (h : BelowB B w a c bs) (hb : Below C w w') (hB : B ≤ C) : BelowB B w' a c bs := by
  refine ⟨?_, h.lt, h.cap⟩
  rcases h.row with h0 | ⟨b, o, h1, h2, h3⟩
  · exact .inl h0
  · exact .inr ⟨b, o, h1, h2, fun i hi => (hb.cell (p := ⟨b, o + i, none⟩) (Nat.lt_of_lt_of_le h2 hB)).trans (h3 i hi)⟩
theorem BelowB.bat {B : Nat} {w : World} {a : Option Addr} {c : Nat} {bs : List Nat} (h : BelowB B w a c bs) (hB : B ≤ w.heap.size) (hl : bs.length ≤ maxLen) : BAt w a bs := by
  refine ⟨?_, h.lt, hl⟩
  rcases h.row with h0 | ⟨b, o, h1, h2, h3⟩
  · exact .inl h0
  · exact .inr ⟨b, o, h1, Nat.lt_of_lt_of_le h2 hB, h3⟩
theorem BelowB.some {B : Nat} {w : World} {a : Option Addr} {c : Nat} {bs : List Nat} (h : BelowB B w a c bs) (hn : bs ≠ []) : ∃ b o, a = some ⟨b, o, none⟩ := by
  rcases h.row with h0 | ⟨b, o, h1, _⟩
  · exact absurd h0 hn
  · exact ⟨b, o, h1⟩
/-- So many keys, each row of so many; and the rest. -/
def tk (most each : Nat) (bs : List Nat) : Option (List Nat × List Nat) := match getCount most bs with
  | none => none
  | some (n, r) => getMany getKey (n * each) r
def TRet (B : Nat) (o : Option (List Nat × List Nat)) (w : World) (e : Ending) (w' : World) : Prop := Below w.heap.size w w' ∧ match o with
  | none => e = .returned (.tuple #[.slice none 0 0, .slice none 0 0, .bool false])
  | some (xs, r) => ∃ a c a2 c2, e = .returned (.tuple #[.slice a xs.length c, .slice a2 r.length c2, .bool true]) ∧ w'.ownsRow w.heap.size 33 1 (.slice a xs.length c) xs.length (K.fCells xs) ∧ BelowB B w' a2 c2 r
set_option maxHeartbeats 4000000 in
set_option maxRecDepth 100000 in
theorem take_any (B most each : Nat) (a : Option Addr) (c : Nat) (bs : List Nat) (w : World) (h : BelowB B w a c bs) (hB : B ≤ w.heap.size) (hl : bs.length ≤ 9223372036854775807) (hm : most ≤ 100) (he : each ≤ 2) :
    Calls Tryz.prog 58 #[.slice a bs.length c, .int .i64 most, .int .i64 each] w (TRet B (tk most each bs) w) := by
  have HB := hid h
  clear h
  generalize hQ : tk most each bs = q
  have HQ := hid hQ
  clear hQ
  have HG := getNum_any a c _ bs w rfl (HB.out.bat hB (by unfold maxLen; omega)) hl
  cases hv : getV 0 0 bs with
  | none =>
    have hq : q = none := by rw [← HQ.out]; unfold tk getCount getNum; rw [hv]; rfl
    subst hq
    rw [hv] at HG
    have e : gotN bs none = .tuple #[.int .i64 0, .int .i64 0] := rfl
    rw [e] at HG
    go_enter Tryz.func58, Tryz.ntmps58
    go_wp2_with (go_at_call 57; (with_reducible refine (HG).mono ?_); rintro e w' ⟨rfl, rfl⟩)
    exact bodyPost_ret (v := .tuple #[.slice none 0 0, .slice none 0 0, .bool false]) (by simp [results, Tryz.results58, go_sem]) rfl ⟨Below.refl _ _, rfl⟩
  | some p =>
    obtain ⟨u, r⟩ := p
    obtain ⟨k, hk0, hkl, rfl⟩ := getV_drop _ _ _ _ _ hv
    rw [hv] at HG
    have e : gotN bs (some (u, bs.drop k)) = .tuple #[.int .i64 (zag u), .int .i64 (k : Nat)] := by
      show Value.tuple #[.int .i64 (zag u), .int .i64 ((bs.length - (bs.drop k).length : Nat) : Int)] = _
      have e2 : bs.length - (bs.drop k).length = k := by rw [List.length_drop]; omega
      rw [e2]
    rw [e] at HG
    have hgn : getNum bs = some (zag u, bs.drop k) := by unfold getNum; rw [hv]; rfl
    have hk0' : ¬ (k : Int) = 0 := by omega
    have hz := (num_good.bwd _ _ _ hgn HB.out.lt).2
    have hz1 := hz.1; have hz2 := hz.2
    clear e hv hz
    generalize zag u = z at *
    by_cases hc : z < 0 ∨ (most : Int) < z
    · have hq : q = none := by rw [← HQ.out]; unfold tk getCount; rw [hgn]; simp only; rw [if_pos hc]
      subst hq
      clear hgn hz1 hz2
      by_cases hz0 : z < 0
      · go_enter Tryz.func58, Tryz.ntmps58
        go_wp2_with (go_at_call 57; (with_reducible refine (HG).mono ?_); rintro e w' ⟨rfl, rfl⟩)
        exact bodyPost_ret (v := .tuple #[.slice none 0 0, .slice none 0 0, .bool false]) (by simp [results, Tryz.results58, go_sem]) rfl ⟨Below.refl _ _, rfl⟩
      · have hzm : (most : Int) < z := by omega
        go_enter Tryz.func58, Tryz.ntmps58
        go_wp2_with (go_at_call 57; (with_reducible refine (HG).mono ?_); rintro e w' ⟨rfl, rfl⟩)
        exact bodyPost_ret (v := .tuple #[.slice none 0 0, .slice none 0 0, .bool false]) (by simp [results, Tryz.results58, go_sem]) rfl ⟨Below.refl _ _, rfl⟩
    · obtain ⟨N, rfl⟩ : ∃ N : Nat, z = N := ⟨z.toNat, by omega⟩
      have hz0 : ¬ (N : Int) < 0 := by omega
      have hzm : ¬ (most : Int) < (N : Int) := by omega
      have hNm : N ≤ most := by omega
      have hq : q = getMany getKey (N * each) (bs.drop k) := by rw [← HQ.out]; unfold tk getCount; rw [hgn]; simp only; rw [if_neg hc]; rfl
      have HQ2 := hid hq
      have hNe : N * each ≤ 200 := Nat.le_trans (Nat.mul_le_mul (Nat.le_trans hNm hm) he) (by decide)
      obtain ⟨b, o, rfl⟩ := HB.out.some (by intro h0; rw [h0] at hkl; simp at hkl; omega)
      obtain ⟨hcut1, hcut2⟩ := HB.out.cut hkl
      have HCUT1 := hid hcut1; have HCUT2 := hid hcut2
      have hkc : k ≤ c := Nat.le_trans hkl HB.out.cap
      clear hgn hz1 hz2 hc hq hcut1 hcut2 HQ
      go_enter Tryz.func58, Tryz.ntmps58
      go_upto_region 7 with (go_at_call 57; (with_reducible refine (HG).mono ?_); rintro e w' ⟨rfl, rfl⟩)
      · exfalso
        rename_i h1 h2
        simp at h2
        omega
      · skip
        go_loopw [0, 11, 12] (fun t0 t11 t12 wr => ∃ (i j m : Nat) (a1 : Option Addr) (c1 : Nat) (a2 : Option Addr) (c2 : Nat) (L l : List Nat), t12 = .int .i64 (i : Nat) ∧ t11 = .slice a1 j c1 ∧ t0 = .slice a2 m c2 ∧ i ≤ N * each ∧ Hid (L.length = j) ∧ Hid (j = i) ∧ Hid (l.length = m) ∧ Hid (l.length ≤ 9223372036854775807) ∧ Hid (getMany getKey i (bs.drop k) = some (L, l)) ∧ Hid (BelowB B wr a2 c2 l) ∧ Hid (wr.ownsRow w.heap.size 33 1 (.slice a1 j c1) j (K.fCells L)) ∧ Below w.heap.size w wr) (fun _ _ t12 _ => N * each - (intOf t12).toNat)
        case atStart => exact ⟨0, 0, _, _, _, _, _, [], bs.drop k, rfl, rfl, rfl, Nat.zero_le _, hid rfl, hid rfl, hid (by rw [List.length_drop]), hid (by rw [List.length_drop]; omega), hid rfl, hid (BelowB.below (HCUT1.out (by first | rfl | assumption)) (Below.alloc1 (Nat.le_refl _) (Below.refl w.heap.size w) _) hB), hid (World.ownsRow_made w #[] 0 (Nat.le_refl _) (by unfold maxLen; omega) rfl), Below.alloc1 (Nat.le_refl _) (Below.refl _ _) _⟩
        case round =>
          obtain ⟨i, j, m, a1, c1, a2, c2, L, l, rfl, rfl, rfl, hi, HL, HJ, HM, HLL, HMM, HBL, HW, hb⟩ := hrel
          have hz := hb.size
          have ep : ((N * each : Nat) : Int) = (N : Int) * (each : Int) := Int.natCast_mul N each
          by_cases hlt : i < N * each
          · have hlt' : (i : Int) < (N : Int) * (each : Int) := by rw [← ep]; omega
            have HO := oneK_any a2 c2 m l wr HM.out (HBL.out.bat (Nat.le_trans hB hz) (by unfold maxLen; have := HLL.out; omega))
            go_upto_region 9 with fail
            go_wp2_with fail
            refine HO.mono ?_
            rintro e w1 ⟨hb1, h1⟩
            have hz1 := hb1.size
            have hbw1 := hb.trans (hb1.mono hz)
            cases hk : getKey l with
            | none =>
              have hqn : q = none := by
                rw [HQ2.out]
                have : getMany getKey (i + 1) (bs.drop k) = none := by rw [getMany, HMM.out]; simp only; rw [hk]
                have := many_none (k := N * each - (i + 1)) this
                rwa [show i + 1 + (N * each - (i + 1)) = N * each by omega] at this
              subst hqn
              rw [hk] at h1
              simp only at h1
              subst h1
              clear hk HQ2
              go_wp2_with fail
              exact bodyPost_ret (v := .tuple #[.slice none 0 0, .slice none 0 0, .bool false]) (by simp [results, Tryz.results58, go_sem]) rfl ⟨Below.alloc1 hbw1.size hbw1 _, rfl⟩
            | some p =>
              obtain ⟨x, r⟩ := p
              obtain ⟨h8, rfl⟩ := getKey_some hk
              have HM2 : Hid (getMany getKey (i + 1) (bs.drop k) = some (L ++ [x], l.drop 8)) := hid (by rw [getMany, HMM.out]; simp only; rw [hk])
              rw [hk] at h1
              simp only at h1
              subst h1
              obtain ⟨b2, o2, rfl⟩ := HBL.out.some (by intro h0; rw [h0] at h8; simp at h8)
              have hm8 : 8 ≤ m := by rw [← HM.out]; exact h8
              have hc8 : 8 ≤ c2 := Nat.le_trans h8 HBL.out.cap
              have hmc : m ≤ c2 := by rw [← HM.out]; exact HBL.out.cap
              have w1own := HW.out.kept (K.grown_of_below hb1) (by cases (Value.slice a1 j c1).ownBlock <;> simp)
              go_upto_region 12 with fail
              generalize hW2 : World.alloc _ _ = w2 at *
              have hb2 : Below w1.heap.size w1 w2 := by rw [← hW2]; (repeat (first | with_reducible exact Below.refl _ _ | ((with_reducible refine Below.alloc1 ?_ ?_ _); (· first | omega | (simp; done) | (simp; omega))) | (with_reducible refine Below.drew ?_) | (with_reducible refine below_drewN' ?_ _) | ((with_reducible refine Below.setCell1 ?_ ?_ _); (· first | omega | (simp; done) | (simp; omega))) | ((with_reducible refine Below.after (by assumption) ?_ ?_); (· first | omega | (simp; done) | (simp; omega)))))
              have hz2 := hb2.size
              have x2 : w2.cell? ⟨w1.heap.size, 2, none⟩ = some (.float .f64 x) := by rw [← hW2]; simp [go_sem]
              have w2own := w1own.kept (K.grown_of_below hb2) (by cases (Value.slice a1 j c1).ownBlock <;> simp)
              obtain ⟨a3, c3, w3, hrun, hown3, hb3⟩ := K.appF x HL.out w2own (by omega) (by have := HJ.out; omega)
              have hz3 := hb3.size
              have hbw2 := hbw1.trans (hb2.mono hbw1.size)
              have hbw3 := hbw2.trans hb3
              have HBL3 := (HBL.out.below (hb1.mono (Nat.le_trans hB hz)) (Nat.le_refl _)).below (hb2.mono (by omega : B ≤ w1.heap.size)) (Nat.le_refl _)
              have HBL4 := HBL3.below (hb3.mono hB) (Nat.le_refl _)
              obtain ⟨k1, k2⟩ := HBL4.cut h8
              have K1 := hid k1; have K2 := hid k2; have HW3 := hid hown3; have HRUN := hid hrun; have HBW3 := hid hbw3
              have HL3 : Hid ((L ++ [x]).length = j + 1) := hid (by rw [List.length_append, HL.out]; rfl)
              have HD8 : Hid ((l.drop 8).length = m - 8) := hid (by rw [List.length_drop, HM.out])
              have HD9 : Hid ((l.drop 8).length ≤ 9223372036854775807) := hid (by rw [List.length_drop]; have := HLL.out; omega)
              have HJ3 : Hid (j + 1 = i + 1) := hid (by rw [HJ.out])
              clear hW2 hk w1own w2own hown3 hb1 hb2 hb3 hbw1 hbw2 hbw3 HBL3 HBL4 k1 k2 hrun HO
              have K3 : Hid (BelowB B w3 (if c2 = 8 then some ⟨b2, o2, none⟩ else some ⟨b2, o2 + 8, none⟩) (c2 - 8) (l.drop 8)) := hid (by
                by_cases h : c2 = 8
                · rw [if_pos h, h]; exact K1.out h
                · rw [if_neg h]; exact K2.out)
              clear K1 K2
              go_wp2_with (at_builtin; refine Lib.wpList_append_run _ rfl _ _ _ _ rfl _ _ rfl rfl _ _ (HRUN.out _) ?_)
              go_roundw
              case rel => exact ⟨i + 1, j + 1, m - 8, a3, c3, _, _, L ++ [x], l.drop 8, by go_num, rfl, rfl, by omega, HL3, HJ3, HD8, HD9, HM2, K3, HW3, HBW3.out⟩
              case measure => first | (simp [intOf]; done) | (simp [intOf]; omega)
          · obtain rfl : i = N * each := by omega
            have hqs : q = some (L, l) := by rw [HQ2.out, HMM.out]
            have hge : ¬ ((N * each : Nat) : Int) < (N : Int) * (each : Int) := by rw [ep]; omega
            obtain rfl : j = L.length := HL.out.symm
            obtain rfl : m = l.length := HM.out.symm
            subst hqs
            go_wp2_with fail
            exact bodyPost_ret (v := .tuple #[.slice a1 L.length c1, .slice a2 l.length c2, .bool true]) (by simp [results, Tryz.results58, go_sem]) rfl ⟨hb, a1, c1, a2, c2, rfl, HW.out, HBL.out⟩
      · skip
        go_loopw [0, 11, 12] (fun t0 t11 t12 wr => ∃ (i j m : Nat) (a1 : Option Addr) (c1 : Nat) (a2 : Option Addr) (c2 : Nat) (L l : List Nat), t12 = .int .i64 (i : Nat) ∧ t11 = .slice a1 j c1 ∧ t0 = .slice a2 m c2 ∧ i ≤ N * each ∧ Hid (L.length = j) ∧ Hid (j = i) ∧ Hid (l.length = m) ∧ Hid (l.length ≤ 9223372036854775807) ∧ Hid (getMany getKey i (bs.drop k) = some (L, l)) ∧ Hid (BelowB B wr a2 c2 l) ∧ Hid (wr.ownsRow w.heap.size 33 1 (.slice a1 j c1) j (K.fCells L)) ∧ Below w.heap.size w wr) (fun _ _ t12 _ => N * each - (intOf t12).toNat)
        case atStart => exact ⟨0, 0, _, _, _, _, _, [], bs.drop k, rfl, rfl, rfl, Nat.zero_le _, hid rfl, hid rfl, hid (by rw [List.length_drop]), hid (by rw [List.length_drop]; omega), hid rfl, hid (BelowB.below HCUT2.out (Below.alloc1 (Nat.le_refl _) (Below.refl w.heap.size w) _) hB), hid (World.ownsRow_made w #[] 0 (Nat.le_refl _) (by unfold maxLen; omega) rfl), Below.alloc1 (Nat.le_refl _) (Below.refl _ _) _⟩
        case round =>
          obtain ⟨i, j, m, a1, c1, a2, c2, L, l, rfl, rfl, rfl, hi, HL, HJ, HM, HLL, HMM, HBL, HW, hb⟩ := hrel
          have hz := hb.size
          have ep : ((N * each : Nat) : Int) = (N : Int) * (each : Int) := Int.natCast_mul N each
          by_cases hlt : i < N * each
          · have hlt' : (i : Int) < (N : Int) * (each : Int) := by rw [← ep]; omega
            have HO := oneK_any a2 c2 m l wr HM.out (HBL.out.bat (Nat.le_trans hB hz) (by unfold maxLen; have := HLL.out; omega))
            go_upto_region 9 with fail
            go_wp2_with fail
            refine HO.mono ?_
            rintro e w1 ⟨hb1, h1⟩
            have hz1 := hb1.size
            have hbw1 := hb.trans (hb1.mono hz)
            cases hk : getKey l with
            | none =>
              have hqn : q = none := by
                rw [HQ2.out]
                have : getMany getKey (i + 1) (bs.drop k) = none := by rw [getMany, HMM.out]; simp only; rw [hk]
                have := many_none (k := N * each - (i + 1)) this
                rwa [show i + 1 + (N * each - (i + 1)) = N * each by omega] at this
              subst hqn
              rw [hk] at h1
              simp only at h1
              subst h1
              clear hk HQ2
              go_wp2_with fail
              exact bodyPost_ret (v := .tuple #[.slice none 0 0, .slice none 0 0, .bool false]) (by simp [results, Tryz.results58, go_sem]) rfl ⟨Below.alloc1 hbw1.size hbw1 _, rfl⟩
            | some p =>
              obtain ⟨x, r⟩ := p
              obtain ⟨h8, rfl⟩ := getKey_some hk
              have HM2 : Hid (getMany getKey (i + 1) (bs.drop k) = some (L ++ [x], l.drop 8)) := hid (by rw [getMany, HMM.out]; simp only; rw [hk])
              rw [hk] at h1
              simp only at h1
              subst h1
              obtain ⟨b2, o2, rfl⟩ := HBL.out.some (by intro h0; rw [h0] at h8; simp at h8)
              have hm8 : 8 ≤ m := by rw [← HM.out]; exact h8
              have hc8 : 8 ≤ c2 := Nat.le_trans h8 HBL.out.cap
              have hmc : m ≤ c2 := by rw [← HM.out]; exact HBL.out.cap
              have w1own := HW.out.kept (K.grown_of_below hb1) (by cases (Value.slice a1 j c1).ownBlock <;> simp)
              go_upto_region 12 with fail
              generalize hW2 : World.alloc _ _ = w2 at *
              have hb2 : Below w1.heap.size w1 w2 := by rw [← hW2]; (repeat (first | with_reducible exact Below.refl _ _ | ((with_reducible refine Below.alloc1 ?_ ?_ _); (· first | omega | (simp; done) | (simp; omega))) | (with_reducible refine Below.drew ?_) | (with_reducible refine below_drewN' ?_ _) | ((with_reducible refine Below.setCell1 ?_ ?_ _); (· first | omega | (simp; done) | (simp; omega))) | ((with_reducible refine Below.after (by assumption) ?_ ?_); (· first | omega | (simp; done) | (simp; omega)))))
              have hz2 := hb2.size
              have x2 : w2.cell? ⟨w1.heap.size, 2, none⟩ = some (.float .f64 x) := by rw [← hW2]; simp [go_sem]
              have w2own := w1own.kept (K.grown_of_below hb2) (by cases (Value.slice a1 j c1).ownBlock <;> simp)
              obtain ⟨a3, c3, w3, hrun, hown3, hb3⟩ := K.appF x HL.out w2own (by omega) (by have := HJ.out; omega)
              have hz3 := hb3.size
              have hbw2 := hbw1.trans (hb2.mono hbw1.size)
              have hbw3 := hbw2.trans hb3
              have HBL3 := (HBL.out.below (hb1.mono (Nat.le_trans hB hz)) (Nat.le_refl _)).below (hb2.mono (by omega : B ≤ w1.heap.size)) (Nat.le_refl _)
              have HBL4 := HBL3.below (hb3.mono hB) (Nat.le_refl _)
              obtain ⟨k1, k2⟩ := HBL4.cut h8
              have K1 := hid k1; have K2 := hid k2; have HW3 := hid hown3; have HRUN := hid hrun; have HBW3 := hid hbw3
              have HL3 : Hid ((L ++ [x]).length = j + 1) := hid (by rw [List.length_append, HL.out]; rfl)
              have HD8 : Hid ((l.drop 8).length = m - 8) := hid (by rw [List.length_drop, HM.out])
              have HD9 : Hid ((l.drop 8).length ≤ 9223372036854775807) := hid (by rw [List.length_drop]; have := HLL.out; omega)
              have HJ3 : Hid (j + 1 = i + 1) := hid (by rw [HJ.out])
              clear hW2 hk w1own w2own hown3 hb1 hb2 hb3 hbw1 hbw2 hbw3 HBL3 HBL4 k1 k2 hrun HO
              have K3 : Hid (BelowB B w3 (if c2 = 8 then some ⟨b2, o2, none⟩ else some ⟨b2, o2 + 8, none⟩) (c2 - 8) (l.drop 8)) := hid (by
                by_cases h : c2 = 8
                · rw [if_pos h, h]; exact K1.out h
                · rw [if_neg h]; exact K2.out)
              clear K1 K2
              go_wp2_with (at_builtin; refine Lib.wpList_append_run _ rfl _ _ _ _ rfl _ _ rfl rfl _ _ (HRUN.out _) ?_)
              go_roundw
              case rel => exact ⟨i + 1, j + 1, m - 8, a3, c3, _, _, L ++ [x], l.drop 8, by go_num, rfl, rfl, by omega, HL3, HJ3, HD8, HD9, HM2, K3, HW3, HBW3.out⟩
              case measure => first | (simp [intOf]; done) | (simp [intOf]; omega)
          · obtain rfl : i = N * each := by omega
            have hqs : q = some (L, l) := by rw [HQ2.out, HMM.out]
            have hge : ¬ ((N * each : Nat) : Int) < (N : Int) * (each : Int) := by rw [ep]; omega
            obtain rfl : j = L.length := HL.out.symm
            obtain rfl : m = l.length := HM.out.symm
            subst hqs
            go_wp2_with fail
            exact bodyPost_ret (v := .tuple #[.slice a1 L.length c1, .slice a2 l.length c2, .bool true]) (by simp [results, Tryz.results58, go_sem]) rfl ⟨hb, a1, c1, a2, c2, rfl, HW.out, HBL.out⟩
end Go.Proofs.YtgpkfgeflcdbcaaGreat.P
