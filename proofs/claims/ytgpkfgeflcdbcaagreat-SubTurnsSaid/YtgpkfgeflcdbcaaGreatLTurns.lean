/- The walk of SubTurns. -/
import Derived.Test.YtgpkfgeflcdbcaaGreatMLC
namespace Go.Proofs.YtgpkfgeflcdbcaaGreat.P
set_option linter.unusedVariables false
open Go.RowKit Fl
set_option linter.unusedSimpArgs false

/-- Two numbers are added. -/
theorem appFF {w : World} {base n : Nat} {a : Option Addr} {c : Nat} {xs : List Nat} (y : Nat) (hn : xs.length = n) (hown : w.ownsRow base 33 1 (.slice a n c) n (K.fCells xs)) (hbase : base ≤ w.heap.size) (hl : n ≤ 1000) :
    ∃ a' c' w', (∀ ty, (Builtin.append_ #[22, 22] ty #[.slice a n c, .slice (some ⟨w.heap.size, 0, none⟩) 2 2]).run Tryz.prog (w.alloc (.cells #[.float .f64 y, .float .f64 y] 33)) = .ok (.slice a' (n + 2) c') w') ∧
      w'.ownsRow base 33 1 (.slice a' (n + 2) c') (n + 2) (K.fCells (xs ++ [y, y])) ∧ Below base w w' := by
  obtain ⟨i0, hi0, hz0, hzs, hzb⟩ := info_parts K.floatInfo
  have hb1 : Below w.heap.size w (w.alloc (.cells #[.float .f64 y, .float .f64 y] 33)) := by exact below_auto
  have hown1 := hown.kept (K.grown_of_below hb1) (by cases (Value.slice a n c).ownBlock <;> simp)
  obtain ⟨v', w', hr, h2, h3⟩ := run_append_own2 (P := Tryz.prog) (w.alloc (.cells #[.float .f64 y, .float .f64 y] 33)) base 22 33 i0 _ 1 8 Tryz.underlying22 hi0 hz0 hzs hzb rfl (by omega) _ _ _ hown1 ⟨w.heap.size, 0, none⟩ 2 2 [.float .f64 y, .float .f64 y] rfl
    (fun j u hj => by
      have hrow : (w.alloc (.cells #[.float .f64 y, .float .f64 y] 33)).heap[w.heap.size]? = some (.cells #[.float .f64 y, .float .f64 y] 33 (0, 0)) := heap_alloc_new w _
      rw [K.addr0, cell_of_row _ _ j _ _ (0, 0) hrow]
      rw [← hj]; simp) (by intro u hu; simp at hu; rw [hu]; rfl) (by omega) (by unfold maxLen; omega) (by omega) (by simp; omega)
  have hc : K.fCells xs ++ [.float .f64 y, .float .f64 y] = K.fCells (xs ++ [y, y]) := by simp [K.fCells]
  rw [hc] at h2
  obtain ⟨a', c', rfl⟩ := K.own_sliceF h2
  exact ⟨a', c', w', hr, h2, (hb1.mono hbase).grown h3.1 (by simp; omega) (fun k hk => (hown.lt k hk).1)⟩
/-- Two spans are added. -/
theorem appSS {w : World} {base n : Nat} {a : Option Addr} {c : Nat} {l : List SpanV} (s : SpanV) (hn : l.length = n) (hown : w.ownsRow base 50 4 (.slice a n c) n (N.vCells l)) (hbase : base ≤ w.heap.size) (hl : n ≤ 1000) :
    ∃ a' c' w', (∀ ty, (Builtin.append_ #[23, 23] ty #[.slice a n c, .slice (some ⟨w.heap.size, 0, none⟩) 2 2]).run Tryz.prog (w.alloc (.cells #[.float .f64 s.lo, .float .f64 s.hi, .bool s.a, .bool s.b, .float .f64 s.lo, .float .f64 s.hi, .bool s.a, .bool s.b] 50)) = .ok (.slice a' (n + 2) c') w') ∧
      w'.ownsRow base 50 4 (.slice a' (n + 2) c') (n + 2) (N.vCells (l ++ [s, s])) ∧ Below base w w' := by
  obtain ⟨i0, hi0, hz0, hzs, hzb⟩ := info_parts N.spanInfo
  have hb1 : Below w.heap.size w (w.alloc (.cells #[.float .f64 s.lo, .float .f64 s.hi, .bool s.a, .bool s.b, .float .f64 s.lo, .float .f64 s.hi, .bool s.a, .bool s.b] 50)) := by exact below_auto
  have hown1 := hown.kept (K.grown_of_below hb1) (by cases (Value.slice a n c).ownBlock <;> simp)
  obtain ⟨v', w', hr, h2, h3⟩ := run_append_own2 (P := Tryz.prog) (w.alloc (.cells #[.float .f64 s.lo, .float .f64 s.hi, .bool s.a, .bool s.b, .float .f64 s.lo, .float .f64 s.hi, .bool s.a, .bool s.b] 50)) base 23 50 i0 _ 4 24 Tryz.underlying23 hi0 hz0 hzs hzb rfl (by omega) _ _ _ hown1 ⟨w.heap.size, 0, none⟩ 2 2 (N.encV s ++ N.encV s) rfl
    (fun j u hj => by
      have hrow : (w.alloc (.cells #[.float .f64 s.lo, .float .f64 s.hi, .bool s.a, .bool s.b, .float .f64 s.lo, .float .f64 s.hi, .bool s.a, .bool s.b] 50)).heap[w.heap.size]? = some (.cells #[.float .f64 s.lo, .float .f64 s.hi, .bool s.a, .bool s.b, .float .f64 s.lo, .float .f64 s.hi, .bool s.a, .bool s.b] 50 (0, 0)) := heap_alloc_new w _
      rw [K.addr0, N.cell_row hrow]
      rw [← hj]; simp [N.encV]) (fun u hu => (List.mem_append.1 hu).elim (N.encV_one s u) (N.encV_one s u)) (by omega) (by unfold maxLen; omega) (by omega) (by simp; omega)
  have hc : N.vCells l ++ (N.encV s ++ N.encV s) = N.vCells (l ++ [s, s]) := by simp [N.vCells]
  rw [hc] at h2
  have hv : ∃ va vc, v' = .slice va (n + 2) vc := by
    rcases h2.2 with ⟨rfl, h4⟩ | ⟨g, cap, cur, rfl, _⟩
    · omega
    · exact ⟨_, _, rfl⟩
  obtain ⟨a', c', rfl⟩ := hv
  exact ⟨a', c', w', hr, h2, (hb1.mono hbase).grown h3.1 (by simp; omega) (fun k hk => (hown.lt k hk).1)⟩
/-- The box of the one that is being made. -/
structure TSt (W0 W : World) (T : Nat) (cs : Array Value) : Prop where
  fr : W0.grownBy W (some T)
  t : W.heap[T]? = some (.cells cs 25 (0, 0))
theorem TSt.lt {W0 W : World} {T : Nat} {cs : Array Value} (h : TSt W0 W T cs) : T < W.heap.size := (Array.getElem?_eq_some_iff.1 h.t).1
theorem TSt.below {W0 W W' : World} {T C : Nat} {cs : Array Value} (h : TSt W0 W T cs) (hb : Below C W W') (hC : W0.heap.size ≤ C) (hT : T < C) : TSt W0 W' T cs := ⟨grown_below h.fr hb hC, (hb.block T hT).trans h.t⟩
theorem TSt.set {W0 W : World} {T : Nat} {cs : Array Value} (h : TSt W0 W T cs) (i : Nat) (v : Value) : TSt W0 (W.setCell ⟨T, i, none⟩ v) T (cs.setIfInBounds i v) ∧ W.grownBy (W.setCell ⟨T, i, none⟩ v) (some T) := by
  obtain ⟨h5, h6⟩ := set1R (i := i) h.t v
  exact ⟨⟨h.fr.trans h6, h5⟩, h6⟩
theorem TSt.cell {W0 W : World} {T : Nat} {cs : Array Value} (h : TSt W0 W T cs) (i : Nat) : W.cell? ⟨T, i, none⟩ = cs[i]? := cell_of_row W T i _ _ (0, 0) h.t
theorem TSt.fz {W0 W : World} {T : Nat} {cs : Array Value} (h : TSt W0 W T cs) (i : Nat) : W.frozen? ⟨T, i, none⟩ = false := by simp [World.frozen?, h.t]
theorem dbl_len {α : Type} (l : List α) : (dbl l).length = 2 * l.length := by
  unfold dbl
  have e : l.length = l.reverse.length := List.length_reverse.symm
  rw [e]
  generalize l.reverse = r
  induction r with
  | nil => rfl
  | cons x r ih => rw [List.flatMap_cons, List.length_append, ih]; simp; omega
theorem dbl_drop {α : Type} {l : List α} {j : Nat} {y : α} (h : l[j]? = some y) : dbl (l.drop j) = dbl (l.drop (j + 1)) ++ [y, y] := by
  have hj := (List.getElem?_eq_some_iff.1 h).1
  have e : l.drop j = y :: l.drop (j + 1) := by
    rw [List.drop_eq_getElem_cons hj]
    congr 1
    have := List.getElem?_eq_getElem hj
    rw [h] at this; exact (Option.some.inj this).symm
  unfold dbl
  rw [e, List.reverse_cons, List.flatMap_append]; simp
theorem drop_nil {α : Type} (l : List α) : dbl (l.drop l.length) = [] := by rw [List.drop_length]; rfl

set_option maxHeartbeats 4000000 in
set_option maxRecDepth 100000 in
theorem subTurns_walk (x : SubV) (w : World) (h : x.At w) (hf : K.Fits x) :
    Calls Tryz.prog 9 #[.agg #[.int .i64 x.s0, .int .i64 x.s1, .int .i64 x.s2, .slice x.ra x.rs.length x.rc, .slice x.sa x.ss.length x.sc, .slice x.wa x.ws.length x.wc]] w (Ret (.bool true) w) := by
  have HX := hid h; have HF := hid hf
  clear h hf
  go_enter Tryz.func9, Tryz.ntmps9
  go_upto_region 1 with fail
  generalize hW0 : World.alloc _ _ = w0 at *
  have hA : Below w.heap.size w w0 := by rw [← hW0]; exact below_auto
  have hz0 : w.heap.size < w0.heap.size := by rw [← hW0]; simp
  have q0 : w0.heap[w.heap.size]? = some (.cells #[.int .i64 x.s0, .int .i64 x.s1, .int .i64 x.s2, .slice x.ra x.rs.length x.rc, .slice x.sa x.ss.length x.sc, .slice x.wa x.ws.length x.wc] 25 (0, 0)) := by rw [← hW0]; simpa using heap_alloc_new w _
  clear hW0
  go_upto_region 3 with (first | (go_at_call 11; (with_reducible refine (K.canonical_any _).mono ?_); rintro e w1 ⟨rfl, hb1⟩; obtain ⟨hc1, hf1⟩ := bcell hb1; (try simp only [World.heap_drewN, World.cell?_drewN, World.frozen?_drewN] at hc1 hf1); have hz1 := hb1.size; (try simp at hz1); (try have hy1_0 : w.heap.size < w1.heap.size := by omega); (try have hy1_1 : w.heap.size + 1 < w1.heap.size := by omega); (try have hy1_2 : w.heap.size + 2 < w1.heap.size := by omega); (try have hy1_3 : w.heap.size + 3 < w1.heap.size := by omega); (try have hx1_0 : w.heap.size ≤ w1.heap.size := by omega); (try have hx1_1 : w.heap.size + 1 ≤ w1.heap.size := by omega); (try have hx1_2 : w.heap.size + 2 ≤ w1.heap.size := by omega)) | (go_at_call 16; (with_reducible refine (coding_any _).mono ?_); rintro e w2 ⟨rfl, hb2⟩; obtain ⟨hc2, hf2⟩ := bcell hb2; (try simp only [World.heap_drewN, World.cell?_drewN, World.frozen?_drewN] at hc2 hf2); have hz2 := hb2.size; (try simp at hz2); (try have hy2_0 : w.heap.size < w2.heap.size := by omega); (try have hy2_1 : w.heap.size + 1 < w2.heap.size := by omega); (try have hy2_2 : w.heap.size + 2 < w2.heap.size := by omega); (try have hy2_3 : w.heap.size + 3 < w2.heap.size := by omega); (try have hx2_0 : w.heap.size ≤ w2.heap.size := by omega); (try have hx2_1 : w.heap.size + 1 ≤ w2.heap.size := by omega); (try have hx2_2 : w.heap.size + 2 ≤ w2.heap.size := by omega)))
  have h02 : Below w0.heap.size w0 w2 := hb1.trans (hb2.mono hb1.size)
  have hw2 : Below w.heap.size w w2 := hA.trans (h02.mono (by omega))
  have q2 := (h02.block _ hz0).trans q0
  have hl2 : w.heap.size < w2.heap.size := Nat.lt_of_lt_of_le hz0 h02.size
  obtain ⟨f1, f2, f3⟩ := HF.out
  clear hb1 hb2 hc1 hf1 hc2 hf2 q0 h02
  obtain ⟨b0, b1, b2, b3, b4, b5⟩ := box6 q2
  by_cases h60 : (x.rs.length : Int) + x.ss.length + x.ws.length > 60
  · go_wp2_with fail
    go_ret
    exact ⟨rfl, hw2⟩
  have h60' : ¬ (60 < (x.rs.length : Int) + x.ss.length + x.ws.length) := by omega
  go_upto_region 6 with fail
  generalize hW3 : World.alloc _ _ = w3 at *
  have hb3 : Below w2.heap.size w2 w3 := by rw [← hW3]; exact below_auto
  have hz3 : w2.heap.size < w3.heap.size := by rw [← hW3]; simp
  have q3 : w3.heap[w2.heap.size]? = some (.cells #[.int .i64 x.s0, .int .i64 x.s1, .int .i64 x.s2, .slice none 0 0, .slice none 0 0, .slice none 0 0] 25 (0, 0)) := by rw [← hW3]; simpa using heap_alloc_new w2 _
  clear hW3 b0 b1 b2 b3 b4 b5
  have hw3 : Below w.heap.size w w3 := hw2.trans (hb3.mono hw2.size)
  have HB : Hid (∀ W, w3.grownBy W (some w2.heap.size) → Below w.heap.size w W) := hid fun W hW => hw3.grown hW (by omega) (fun k hk => by cases hk; omega)
  have BX : Hid (∀ W, w3.grownBy W (some w2.heap.size) → W.cell? ⟨w.heap.size, 0, none⟩ = some (.int .i64 x.s0) ∧ W.cell? ⟨w.heap.size, 1, none⟩ = some (.int .i64 x.s1) ∧ W.cell? ⟨w.heap.size, 2, none⟩ = some (.int .i64 x.s2) ∧ W.cell? ⟨w.heap.size, 3, none⟩ = some (.slice x.ra x.rs.length x.rc) ∧ W.cell? ⟨w.heap.size, 4, none⟩ = some (.slice x.sa x.ss.length x.sc) ∧ W.cell? ⟨w.heap.size, 5, none⟩ = some (.slice x.wa x.ws.length x.wc)) := hid fun W hW => box6 ((hW.block _ (by omega) (fun e => by have := Option.some.inj e; omega)).trans ((hb3.block _ hl2).trans q2))
  have hlr : x.rs.length ≤ 60 := by omega
  have hls : x.ss.length ≤ 60 := by omega
  have hlw : x.ws.length ≤ 60 := by omega
  have S3 : Hid (TSt w3 w3 w2.heap.size #[.int .i64 x.s0, .int .i64 x.s1, .int .i64 x.s2, .slice none 0 0, .slice none 0 0, .slice none 0 0]) := hid ⟨World.grownBy.refl _ _, q3⟩
  clear hb3 q2 q3 h60 h60' hw3 hw2 hA
  obtain ⟨wp, hwp⟩ : ∃ W : World, W = w3 := ⟨_, rfl⟩
  have SP : Hid (TSt w3 wp w2.heap.size #[.int .i64 x.s0, .int .i64 x.s1, .int .i64 x.s2, .slice none 0 0, .slice none 0 0, .slice none 0 0]) := hid (by rw [hwp]; exact S3.out)
  have hzp : w3.heap.size ≤ wp.heap.size := by rw [hwp]; exact Nat.le_refl _
  rw [← hwp]
  clear hwp S3
  obtain ⟨b0, b1, b2, b3, b4, b5⟩ := BX.out wp SP.out.fr
  go_upto_region 7 with fail
  clear b0 b1 b2 b3 b4 b5
  generalize hB0 : wp.heap.size = B0 at *
  have HB0 := hid hB0
  clear hB0
  go_loopw [4] (fun tv wr => ∃ (m j : Nat) (a : Option Addr) (c : Nat), tv = .int .i64 ((m : Int) - 1) ∧ m ≤ x.rs.length ∧ Hid ((dbl (x.rs.drop m)).length = j) ∧ Hid (TSt w3 wr w2.heap.size #[.int .i64 x.s0, .int .i64 x.s1, .int .i64 x.s2, .slice a j c, .slice none 0 0, .slice none 0 0]) ∧ Hid (wr.ownsRow B0 33 1 (.slice a j c) j (K.fCells (dbl (x.rs.drop m)))) ∧ Hid (B0 ≤ wr.heap.size)) (fun tv _ => (intOf tv + 1).toNat)
  case atStart => exact ⟨x.rs.length, 0, none, 0, rfl, Nat.le_refl _, hid (by rw [drop_nil]; rfl), SP, hid (by rw [drop_nil]; exact ⟨rfl, .inl ⟨rfl, rfl⟩⟩), hid (by rw [← HB0.out]; exact Nat.le_refl _)⟩
  case round =>
    obtain ⟨m, j, a, c, rfl, hm, HJ, HS, HW, HZ⟩ := hrel
    cases m with
    | succ i =>
      have ei : ((i + 1 : Nat) : Int) - 1 = (i : Int) := by omega
      rw [ei]
      have hge : (0 : Int) ≤ (i : Int) := by omega
      have hilt : i < x.rs.length := by omega
      have hat := ((HX.out.r).below (HB.out wr HS.out.fr))
      rcases hat.row with h0 | ⟨b, o, ha, hbl, hcl⟩
      · rw [h0] at hilt; simp at hilt
      have k9 := hcl i hilt
      have hy := fl_some hilt
      generalize x.rs[i]?.getD 0 = y at *
      have hdd := dbl_drop hy
      have hjl : j ≤ 120 := by rw [← HJ.out, dbl_len, List.length_drop]; omega
      obtain ⟨b0, b1, b2, b3, b4, b5⟩ := BX.out wr HS.out.fr
      obtain ⟨Y0, hY0⟩ : ∃ Y : World, Y = { wr with drawn := wr.drawn + 1 } := ⟨_, rfl⟩
      have hb0 : Below wr.heap.size wr Y0 := by rw [hY0]; exact Below.drew (Below.refl _ wr)
      have z0 : Y0.heap.size = wr.heap.size := by rw [hY0]
      have hTl := HS.out.lt
      have hzz := HZ.out
      have hzw := HS.out.fr.size
      have hxl : w.heap.size < wr.heap.size := by omega
      have d0 := HS.out.below hb0 hzw hTl
      have ww0 := HW.out.kept (K.grown_of_below hb0) (by cases (Value.slice a j c).ownBlock <;> simp)
      obtain ⟨a', c', Y2, hrun, hown2, hb2⟩ := appFF y HJ.out ww0 (by omega) (by omega)
      have d1 : TSt w3 (Y0.alloc (.cells #[.float .f64 y, .float .f64 y] 33)) w2.heap.size _ := d0.below (Below.alloc1 (Nat.le_refl _) (Below.refl _ Y0) _) (by omega) (by omega)
      have d2 := d0.below hb2 (by have := HB0.out; omega) (by have := HB0.out; omega)
      obtain ⟨d3, g3⟩ := d2.set 3 (.slice a' (j + 2) c')
      have ww3 := own_grown hown2 g3 (by have := HB0.out; omega)
      have zz3 : B0 ≤ (Y2.setCell ⟨w2.heap.size, 3, none⟩ (.slice a' (j + 2) c')).heap.size := by have h1 := g3.size; have h2 := hb2.size; omega
      have p0 := d0.cell 3; have p1 := d1.cell 3; have p2 := d2.cell 3; have pf := d2.fz 3
      simp only [List.getElem?_toArray, List.getElem?_cons_succ, List.getElem?_cons_zero] at p0 p1 p2
      have x0 : Y0.cell? ⟨w.heap.size, 3, none⟩ = some (.slice (some ⟨b, o, none⟩) x.rs.length x.rc) := by rw [← ha]; exact (hb0.cell (p := ⟨w.heap.size, 3, none⟩) hxl).trans b3
      have y0 := (hb0.cell (p := ⟨b, o + i, none⟩) hbl).trans k9
      have YS := hid y0
      clear y0 k9
      have P0 := hid p0; have P1 := hid p1; have P2 := hid p2; have PF := hid pf; have X0 := hid x0
      have HD3 := hid d3; have HW3 := hid ww3; have HZ3 := hid zz3; have HRUN := hid hrun; have HDD := hid hdd
      have HY0 := hid hY0; have HHA := hid ha
      have hJ := HJ.out
      have HJ2 : Hid ((dbl (x.rs.drop i)).length = j + 2) := hid (by rw [hdd, List.length_append, hJ]; rfl)
      obtain ⟨Y3, hY3⟩ : ∃ Y : World, Y = Y2.setCell ⟨w2.heap.size, 3, none⟩ (.slice a' (j + 2) c') := ⟨_, rfl⟩
      have HY3 := hid hY3
      rw [← hY3] at HD3 HW3 HZ3
      clear hcl hy hdd b0 b1 b2 b3 b4 b5 hY0 hb0 z0 d0 ww0 hrun hown2 hb2 d1 d2 d3 g3 ww3 zz3 p0 p1 p2 pf x0 hJ hat ha  hzw hzz hY3
      go_upto_region 9 with fail
      refine wp_region_chain (fun q => [Value.pointer (some ⟨w2.heap.size, 3, none⟩), .slice a j c, .pointer (some ⟨w.heap.size, 3, none⟩), .slice (some ⟨b, o, none⟩) x.rs.length x.rc, .int .i64 (i : Nat), .pointer (some ⟨b, o + i, none⟩), .float .f64 y, .pointer (some ⟨w.heap.size, 3, none⟩), .slice (some ⟨b, o, none⟩) x.rs.length x.rc, .int .i64 (i : Nat), .pointer (some ⟨b, o + i, none⟩), .float .f64 y, .slice (some ⟨Y0.heap.size, 0, none⟩) 2 2, .slice a' (j + 2) c', .pointer (some ⟨w2.heap.size, 3, none⟩)].getD q undef) (fun q X => X = [Y0, Y0.alloc (.cells #[.float .f64 y, .float .f64 y] 33), Y2, Y3].getD q Y0) (fun _ _ => False) [12, 13, 15] rfl (by kernel_rfl) (by kernel_rfl) (by decide) (by decide) HY0.out.symm ?_ ?_ ?_
      · simp only [StepsC, List.nil_append, List.cons_append]
        refine ⟨?p0_0, ?l1_0, ?p2_0, ?l3_0, ?p4_0, ?p5_0, ?l6_0, ?p7_0, ?l8_0, ?p9_0, ?p10_0, ?l11_0, ?bs_0, ?ap_0, ?p14_0, ?st_0, trivial⟩
        case l1_0 =>
          intro jj X g1 g2 hx
          have hj : jj = 0 ∨ jj = 1 := by have : jj ≤ 1 := Nat.le_trans g2 (by decide +kernel); omega
          have c4 : X.cell? ⟨w2.heap.size, 3, none⟩ = some (.slice a j c) := by
            rw [hx]
            rcases hj with rfl | rfl
            · exact P0.out
            · exact P1.out
          generalize hR : (fun v w' => (_ → v = _) ∧ _) = RR
          have HR := hid hR
          have HXX := hid hx
          clear hR g1 g2 hx
          try simp only [putsFrom, Act.put, List.setIfInBounds_toArray, List.set_cons_zero, List.set_cons_succ, Nat.zero_add, Nat.reduceAdd, List.getD_cons_zero, List.getD_cons_succ]
          go_wp2_with fail
          have hR := HR.out
          subst hR
          exact ⟨rfl, fun _ => rfl, HXX.out⟩
        case l3_0 =>
          intro jj X g1 g2 hx
          obtain rfl : jj = 0 := Nat.le_zero.1 (Nat.le_trans g2 (by decide +kernel))
          have c4 : X.cell? ⟨w.heap.size, 3, none⟩ = some (.slice (some ⟨b, o, none⟩) x.rs.length x.rc) := by rw [hx]; exact X0.out
          generalize hR : (fun v w' => (_ → v = _) ∧ _) = RR
          have HR := hid hR
          have HXX := hid hx
          clear hR g1 g2 hx
          try simp only [putsFrom, Act.put, List.setIfInBounds_toArray, List.set_cons_zero, List.set_cons_succ, Nat.zero_add, Nat.reduceAdd, List.getD_cons_zero, List.getD_cons_succ]
          go_wp2_with fail
          have hR := HR.out
          subst hR
          exact ⟨rfl, fun _ => rfl, HXX.out⟩
        case l8_0 =>
          intro jj X g1 g2 hx
          obtain rfl : jj = 0 := Nat.le_zero.1 (Nat.le_trans g2 (by decide +kernel))
          have c4 : X.cell? ⟨w.heap.size, 3, none⟩ = some (.slice (some ⟨b, o, none⟩) x.rs.length x.rc) := by rw [hx]; exact X0.out
          generalize hR : (fun v w' => (_ → v = _) ∧ _) = RR
          have HR := hid hR
          have HXX := hid hx
          clear hR g1 g2 hx
          try simp only [putsFrom, Act.put, List.setIfInBounds_toArray, List.set_cons_zero, List.set_cons_succ, Nat.zero_add, Nat.reduceAdd, List.getD_cons_zero, List.getD_cons_succ]
          go_wp2_with fail
          have hR := HR.out
          subst hR
          exact ⟨rfl, fun _ => rfl, HXX.out⟩
        case l6_0 =>
          intro jj X g1 g2 hx
          obtain rfl : jj = 0 := Nat.le_zero.1 (Nat.le_trans g2 (by decide +kernel))
          have c4 : X.cell? ⟨b, o + i, none⟩ = some (.float .f64 y) := by rw [hx]; exact YS.out
          generalize hR : (fun v w' => (_ → v = _) ∧ _) = RR
          have HR := hid hR
          have HXX := hid hx
          clear hR g1 g2 hx
          try simp only [putsFrom, Act.put, List.setIfInBounds_toArray, List.set_cons_zero, List.set_cons_succ, Nat.zero_add, Nat.reduceAdd, List.getD_cons_zero, List.getD_cons_succ]
          go_wp2_with fail
          have hR := HR.out
          subst hR
          exact ⟨rfl, fun _ => rfl, HXX.out⟩
        case l11_0 =>
          intro jj X g1 g2 hx
          obtain rfl : jj = 0 := Nat.le_zero.1 (Nat.le_trans g2 (by decide +kernel))
          have c4 : X.cell? ⟨b, o + i, none⟩ = some (.float .f64 y) := by rw [hx]; exact YS.out
          generalize hR : (fun v w' => (_ → v = _) ∧ _) = RR
          have HR := hid hR
          have HXX := hid hx
          clear hR g1 g2 hx
          try simp only [putsFrom, Act.put, List.setIfInBounds_toArray, List.set_cons_zero, List.set_cons_succ, Nat.zero_add, Nat.reduceAdd, List.getD_cons_zero, List.getD_cons_succ]
          go_wp2_with fail
          have hR := HR.out
          subst hR
          exact ⟨rfl, fun _ => rfl, HXX.out⟩
        case bs_0 =>
          intro jj X g1 g2 hx
          obtain rfl : jj = 0 := Nat.le_zero.1 (Nat.le_trans g2 (by decide +kernel))
          obtain rfl : X = Y0 := hx
          generalize hR : (fun v w' => (_ → v = _) ∧ _) = RR
          have HR := hid hR
          clear hR g1 g2
          simp only [putsFrom, Act.put, List.setIfInBounds_toArray, List.set_cons_zero, List.set_cons_succ, Nat.zero_add, Nat.reduceAdd, List.getD_cons_zero, List.getD_cons_succ]
          go_wp2_with fail
          have hR := HR.out
          subst hR
          exact ⟨rfl, fun _ => rfl, rfl⟩
        case ap_0 =>
          intro jj X g1 g2 hx
          obtain rfl : jj = 1 := Nat.le_antisymm (Nat.le_trans g2 (by decide +kernel)) (Nat.le_trans (by decide +kernel) g1)
          obtain rfl : X = Y0.alloc (.cells #[.float .f64 y, .float .f64 y] 33) := hx
          generalize hR : (fun v w' => (_ → v = _) ∧ _) = RR
          have HR := hid hR
          clear hR g1 g2
          simp only [putsFrom, Act.put, List.setIfInBounds_toArray, List.set_cons_zero, List.set_cons_succ, Nat.zero_add, Nat.reduceAdd, List.getD_cons_zero, List.getD_cons_succ]
          go_wp2_with (at_builtin; refine Lib.wpList_append_run _ rfl _ _ _ _ rfl _ _ rfl rfl _ _ (HRUN.out _) ?_)
          have hR := HR.out
          subst hR
          exact ⟨rfl, fun _ => rfl, rfl⟩
        case st_0 =>
          intro jj X g1 g2 hx
          obtain rfl : jj = 2 := Nat.le_antisymm (Nat.le_trans g2 (by decide +kernel)) (Nat.le_trans (by decide +kernel) g1)
          obtain rfl : X = Y2 := hx
          have k3 := P2.out; have f3 := PF.out
          generalize hR : (fun v w' => (_ → v = _) ∧ _) = RR
          have HR := hid hR
          clear hR g1 g2
          simp only [putsFrom, Act.put, List.setIfInBounds_toArray, List.set_cons_zero, List.set_cons_succ, Nat.zero_add, Nat.reduceAdd, List.getD_cons_zero, List.getD_cons_succ]
          go_wp2_with fail
          have hR := HR.out
          subst hR
          exact ⟨rfl, fun h => absurd rfl h, HY3.out.symm⟩
        all_goals
          intro jj X g1 g2 hx
          generalize hR : (fun v w' => (_ → v = _) ∧ _) = RR
          have HR := hid hR
          have HXX := hid hx
          clear hR g1 g2 hx
          try simp only [putsFrom, Act.put, List.setIfInBounds_toArray, List.set_cons_zero, List.set_cons_succ, Nat.zero_add, Nat.reduceAdd, List.getD_cons_zero, List.getD_cons_succ]
          go_wp2_with fail
          have hR := HR.out
          subst hR
          exact ⟨rfl, fun _ => rfl, HXX.out⟩
      · intro X hx
        obtain rfl : X = Y3 := hx
        simp only [putsFrom, Act.put, List.setIfInBounds_toArray, List.set_cons_zero, List.set_cons_succ, Nat.zero_add, Nat.reduceAdd, List.getD_cons_zero, List.getD_cons_succ]
        go_wp2_with fail
        go_roundw
        case rel => exact ⟨i, j + 2, a', c', by go_num, by omega, HJ2, HD3, hid (by rw [HDD.out]; exact HW3.out), HZ3⟩
        case measure => first | (simp [intOf]; done) | (simp [intOf]; omega)
      · exact fun _ _ _ _ hx => hx.elim
    | zero =>
      have hneg : ¬ ((0 : Int) ≤ ((0 : Nat) : Int) - 1) := by omega
      obtain ⟨a0, ha0⟩ : ∃ q, q = a := ⟨_, rfl⟩
      obtain ⟨c0, hc0⟩ : ∃ q, q = c := ⟨_, rfl⟩
      obtain rfl : j = (dbl x.rs).length := HJ.out.symm
      rw [← ha0, ← hc0] at HS HW
      have SP := HS
      have OP0 : Hid (wr.ownsRow B0 33 1 (.slice a0 (dbl x.rs).length c0) (dbl x.rs).length (K.fCells (dbl x.rs))) := HW
      have HG0 : Hid (w2.heap.size < B0) := hid (by have := HB0.out; omega)
      have hzp' : w3.heap.size ≤ wr.heap.size := SP.out.fr.size
      clear ha0 hc0
      obtain ⟨wq1, rfl⟩ : ∃ W : World, W = wr := ⟨_, rfl⟩
      obtain ⟨b0, b1, b2, b3, b4, b5⟩ := BX.out wq1 SP.out.fr
      go_upto_region 11 with fail
      clear b0 b1 b2 b3 b4 b5
      generalize hB1 : wq1.heap.size = B1 at *
      have HB1 := hid hB1
      have HL0 : Hid (∀ g, (Value.slice a0 (dbl x.rs).length c0).ownBlock = some g → g < B1) := hid fun g hg => by rw [← hB1]; exact (OP0.out.lt g hg).2
      clear hB1
      go_loopw [5] (fun tv wr => ∃ (m j : Nat) (a : Option Addr) (c : Nat), tv = .int .i64 ((m : Int) - 1) ∧ m ≤ x.ss.length ∧ Hid ((dbl (x.ss.drop m)).length = j) ∧ Hid (TSt w3 wr w2.heap.size #[.int .i64 x.s0, .int .i64 x.s1, .int .i64 x.s2, .slice a0 (dbl x.rs).length c0, .slice a j c, .slice none 0 0]) ∧ Hid (wr.ownsRow B1 50 4 (.slice a j c) j (N.vCells (dbl (x.ss.drop m)))) ∧ Hid (B1 ≤ wr.heap.size) ∧ Hid (wr.ownsRow B0 33 1 (.slice a0 (dbl x.rs).length c0) (dbl x.rs).length (K.fCells (dbl x.rs)))) (fun tv _ => (intOf tv + 1).toNat)
      case atStart => exact ⟨x.ss.length, 0, none, 0, rfl, Nat.le_refl _, hid (by rw [drop_nil]; rfl), SP, hid (by rw [drop_nil]; exact ⟨rfl, .inl ⟨rfl, rfl⟩⟩), hid (by rw [← HB1.out]; exact Nat.le_refl _), OP0⟩
      case round =>
        obtain ⟨m, j, a, c, rfl, hm, HJ, HS, HW, HZ, HO0⟩ := hrel
        cases m with
        | succ i =>
          have ei : ((i + 1 : Nat) : Int) - 1 = (i : Int) := by omega
          rw [ei]
          have hge : (0 : Int) ≤ (i : Int) := by omega
          have hilt : i < x.ss.length := by omega
          have hat := ((HX.out.s).below (HB.out wr HS.out.fr))
          rcases hat.row with h0 | ⟨b, o, ha, hbl, hcl⟩
          · rw [h0] at hilt; simp at hilt
          have k9 := hcl i hilt
          have hy := sp_some hilt
          generalize x.ss[i]?.getD default = y at *
          have hdd := dbl_drop hy
          have hjl : j ≤ 120 := by rw [← HJ.out, dbl_len, List.length_drop]; omega
          obtain ⟨b0, b1, b2, b3, b4, b5⟩ := BX.out wr HS.out.fr
          obtain ⟨Y0, hY0⟩ : ∃ Y : World, Y = { wr with drawn := wr.drawn + 1 } := ⟨_, rfl⟩
          have hb0 : Below wr.heap.size wr Y0 := by rw [hY0]; exact Below.drew (Below.refl _ wr)
          have z0 : Y0.heap.size = wr.heap.size := by rw [hY0]
          have hTl := HS.out.lt
          have hzz := HZ.out
          have hzw := HS.out.fr.size
          have hxl : w.heap.size < wr.heap.size := by omega
          have d0 := HS.out.below hb0 hzw hTl
          have ww0 := HW.out.kept (K.grown_of_below hb0) (by cases (Value.slice a j c).ownBlock <;> simp)
          obtain ⟨a', c', Y2, hrun, hown2, hb2⟩ := appSS y HJ.out ww0 (by omega) (by omega)
          have d1 : TSt w3 (Y0.alloc (.cells #[.float .f64 y.lo, .float .f64 y.hi, .bool y.a, .bool y.b, .float .f64 y.lo, .float .f64 y.hi, .bool y.a, .bool y.b] 50)) w2.heap.size _ := d0.below (Below.alloc1 (Nat.le_refl _) (Below.refl _ Y0) _) (by omega) (by omega)
          have d2 := d0.below hb2 (by have := HB1.out; omega) (by have := HB1.out; omega)
          obtain ⟨d3, g3⟩ := d2.set 4 (.slice a' (j + 2) c')
          have ww3 := own_grown hown2 g3 (by have := HB1.out; omega)
          have oo0 := own_grown (own_at (HO0.out.kept (K.grown_of_below hb0) (by cases (Value.slice a0 (dbl x.rs).length c0).ownBlock <;> simp)) fun g hg => hb2.block g (HL0.out g hg)) g3 (by have := HG0.out; omega)
          have HOO0 := hid oo0
          have zz3 : B1 ≤ (Y2.setCell ⟨w2.heap.size, 4, none⟩ (.slice a' (j + 2) c')).heap.size := by have h1 := g3.size; have h2 := hb2.size; omega
          have p0 := d0.cell 4; have p1 := d1.cell 4; have p2 := d2.cell 4; have pf := d2.fz 4
          simp only [List.getElem?_toArray, List.getElem?_cons_succ, List.getElem?_cons_zero] at p0 p1 p2
          have x0 : Y0.cell? ⟨w.heap.size, 4, none⟩ = some (.slice (some ⟨b, o, none⟩) x.ss.length x.sc) := by rw [← ha]; exact (hb0.cell (p := ⟨w.heap.size, 4, none⟩) hxl).trans b4
          obtain ⟨e0, e1, e2, e3⟩ := k9
          have y0 := (hb0.cell (p := ⟨b, o + i * 4, none⟩) hbl).trans e0; have y1 := (hb0.cell (p := ⟨b, o + i * 4 + 1, none⟩) hbl).trans e1; have y2 := (hb0.cell (p := ⟨b, o + i * 4 + 2, none⟩) hbl).trans e2; have y3 := (hb0.cell (p := ⟨b, o + i * 4 + 3, none⟩) hbl).trans e3
          have YS := hid (And.intro y0 (And.intro y1 (And.intro y2 y3)))
          clear e0 e1 e2 e3 y0 y1 y2 y3
          have P0 := hid p0; have P1 := hid p1; have P2 := hid p2; have PF := hid pf; have X0 := hid x0
          have HD3 := hid d3; have HW3 := hid ww3; have HZ3 := hid zz3; have HRUN := hid hrun; have HDD := hid hdd
          have HY0 := hid hY0; have HHA := hid ha
          have hJ := HJ.out
          have HJ2 : Hid ((dbl (x.ss.drop i)).length = j + 2) := hid (by rw [hdd, List.length_append, hJ]; rfl)
          obtain ⟨Y3, hY3⟩ : ∃ Y : World, Y = Y2.setCell ⟨w2.heap.size, 4, none⟩ (.slice a' (j + 2) c') := ⟨_, rfl⟩
          have HY3 := hid hY3
          rw [← hY3] at HD3 HW3 HZ3 HOO0
          clear hcl hy hdd b0 b1 b2 b3 b4 b5 hY0 hb0 z0 d0 ww0 hrun hown2 hb2 d1 d2 d3 g3 ww3 zz3 p0 p1 p2 pf x0 hJ hat ha oo0 hzw hzz hY3
          go_upto_region 13 with fail
          refine wp_region_chain (fun q => [Value.pointer (some ⟨w2.heap.size, 4, none⟩), .slice a j c, .pointer (some ⟨w.heap.size, 4, none⟩), .slice (some ⟨b, o, none⟩) x.ss.length x.sc, .int .i64 (i : Nat), .pointer (some ⟨b, o + i * 4, none⟩), .agg #[.float .f64 y.lo, .float .f64 y.hi, .bool y.a, .bool y.b], .pointer (some ⟨w.heap.size, 4, none⟩), .slice (some ⟨b, o, none⟩) x.ss.length x.sc, .int .i64 (i : Nat), .pointer (some ⟨b, o + i * 4, none⟩), .agg #[.float .f64 y.lo, .float .f64 y.hi, .bool y.a, .bool y.b], .slice (some ⟨Y0.heap.size, 0, none⟩) 2 2, .slice a' (j + 2) c', .pointer (some ⟨w2.heap.size, 4, none⟩)].getD q undef) (fun q X => X = [Y0, Y0.alloc (.cells #[.float .f64 y.lo, .float .f64 y.hi, .bool y.a, .bool y.b, .float .f64 y.lo, .float .f64 y.hi, .bool y.a, .bool y.b] 50), Y2, Y3].getD q Y0) (fun _ _ => False) [12, 13, 15] rfl (by kernel_rfl) (by kernel_rfl) (by decide) (by decide) HY0.out.symm ?_ ?_ ?_
          · simp only [StepsC, List.nil_append, List.cons_append]
            refine ⟨?p0_1, ?l1_1, ?p2_1, ?l3_1, ?p4_1, ?p5_1, ?l6_1, ?p7_1, ?l8_1, ?p9_1, ?p10_1, ?l11_1, ?bs_1, ?ap_1, ?p14_1, ?st_1, trivial⟩
            case l1_1 =>
              intro jj X g1 g2 hx
              have hj : jj = 0 ∨ jj = 1 := by have : jj ≤ 1 := Nat.le_trans g2 (by decide +kernel); omega
              have c4 : X.cell? ⟨w2.heap.size, 4, none⟩ = some (.slice a j c) := by
                rw [hx]
                rcases hj with rfl | rfl
                · exact P0.out
                · exact P1.out
              generalize hR : (fun v w' => (_ → v = _) ∧ _) = RR
              have HR := hid hR
              have HXX := hid hx
              clear hR g1 g2 hx
              try simp only [putsFrom, Act.put, List.setIfInBounds_toArray, List.set_cons_zero, List.set_cons_succ, Nat.zero_add, Nat.reduceAdd, List.getD_cons_zero, List.getD_cons_succ]
              go_wp2_with fail
              have hR := HR.out
              subst hR
              exact ⟨rfl, fun _ => rfl, HXX.out⟩
            case l3_1 =>
              intro jj X g1 g2 hx
              obtain rfl : jj = 0 := Nat.le_zero.1 (Nat.le_trans g2 (by decide +kernel))
              have c4 : X.cell? ⟨w.heap.size, 4, none⟩ = some (.slice (some ⟨b, o, none⟩) x.ss.length x.sc) := by rw [hx]; exact X0.out
              generalize hR : (fun v w' => (_ → v = _) ∧ _) = RR
              have HR := hid hR
              have HXX := hid hx
              clear hR g1 g2 hx
              try simp only [putsFrom, Act.put, List.setIfInBounds_toArray, List.set_cons_zero, List.set_cons_succ, Nat.zero_add, Nat.reduceAdd, List.getD_cons_zero, List.getD_cons_succ]
              go_wp2_with fail
              have hR := HR.out
              subst hR
              exact ⟨rfl, fun _ => rfl, HXX.out⟩
            case l8_1 =>
              intro jj X g1 g2 hx
              obtain rfl : jj = 0 := Nat.le_zero.1 (Nat.le_trans g2 (by decide +kernel))
              have c4 : X.cell? ⟨w.heap.size, 4, none⟩ = some (.slice (some ⟨b, o, none⟩) x.ss.length x.sc) := by rw [hx]; exact X0.out
              generalize hR : (fun v w' => (_ → v = _) ∧ _) = RR
              have HR := hid hR
              have HXX := hid hx
              clear hR g1 g2 hx
              try simp only [putsFrom, Act.put, List.setIfInBounds_toArray, List.set_cons_zero, List.set_cons_succ, Nat.zero_add, Nat.reduceAdd, List.getD_cons_zero, List.getD_cons_succ]
              go_wp2_with fail
              have hR := HR.out
              subst hR
              exact ⟨rfl, fun _ => rfl, HXX.out⟩
            case l6_1 =>
              intro jj X g1 g2 hx
              obtain rfl : jj = 0 := Nat.le_zero.1 (Nat.le_trans g2 (by decide +kernel))
              have c4 : X.cell? ⟨b, o + i * 4, none⟩ = some (.float .f64 y.lo) ∧ X.cell? ⟨b, o + i * 4 + 1, none⟩ = some (.float .f64 y.hi) ∧ X.cell? ⟨b, o + i * 4 + 2, none⟩ = some (.bool y.a) ∧ X.cell? ⟨b, o + i * 4 + 3, none⟩ = some (.bool y.b) := by rw [hx]; exact YS.out
              obtain ⟨c4, c5, c6, c7⟩ := c4
              generalize hR : (fun v w' => (_ → v = _) ∧ _) = RR
              have HR := hid hR
              have HXX := hid hx
              clear hR g1 g2 hx
              try simp only [putsFrom, Act.put, List.setIfInBounds_toArray, List.set_cons_zero, List.set_cons_succ, Nat.zero_add, Nat.reduceAdd, List.getD_cons_zero, List.getD_cons_succ]
              go_wp2_with fail
              have hR := HR.out
              subst hR
              exact ⟨rfl, fun _ => rfl, HXX.out⟩
            case l11_1 =>
              intro jj X g1 g2 hx
              obtain rfl : jj = 0 := Nat.le_zero.1 (Nat.le_trans g2 (by decide +kernel))
              have c4 : X.cell? ⟨b, o + i * 4, none⟩ = some (.float .f64 y.lo) ∧ X.cell? ⟨b, o + i * 4 + 1, none⟩ = some (.float .f64 y.hi) ∧ X.cell? ⟨b, o + i * 4 + 2, none⟩ = some (.bool y.a) ∧ X.cell? ⟨b, o + i * 4 + 3, none⟩ = some (.bool y.b) := by rw [hx]; exact YS.out
              obtain ⟨c4, c5, c6, c7⟩ := c4
              generalize hR : (fun v w' => (_ → v = _) ∧ _) = RR
              have HR := hid hR
              have HXX := hid hx
              clear hR g1 g2 hx
              try simp only [putsFrom, Act.put, List.setIfInBounds_toArray, List.set_cons_zero, List.set_cons_succ, Nat.zero_add, Nat.reduceAdd, List.getD_cons_zero, List.getD_cons_succ]
              go_wp2_with fail
              have hR := HR.out
              subst hR
              exact ⟨rfl, fun _ => rfl, HXX.out⟩
            case bs_1 =>
              intro jj X g1 g2 hx
              obtain rfl : jj = 0 := Nat.le_zero.1 (Nat.le_trans g2 (by decide +kernel))
              obtain rfl : X = Y0 := hx
              generalize hR : (fun v w' => (_ → v = _) ∧ _) = RR
              have HR := hid hR
              clear hR g1 g2
              simp only [putsFrom, Act.put, List.setIfInBounds_toArray, List.set_cons_zero, List.set_cons_succ, Nat.zero_add, Nat.reduceAdd, List.getD_cons_zero, List.getD_cons_succ]
              go_wp2_with fail
              have hR := HR.out
              subst hR
              exact ⟨rfl, fun _ => rfl, rfl⟩
            case ap_1 =>
              intro jj X g1 g2 hx
              obtain rfl : jj = 1 := Nat.le_antisymm (Nat.le_trans g2 (by decide +kernel)) (Nat.le_trans (by decide +kernel) g1)
              obtain rfl : X = Y0.alloc (.cells #[.float .f64 y.lo, .float .f64 y.hi, .bool y.a, .bool y.b, .float .f64 y.lo, .float .f64 y.hi, .bool y.a, .bool y.b] 50) := hx
              generalize hR : (fun v w' => (_ → v = _) ∧ _) = RR
              have HR := hid hR
              clear hR g1 g2
              simp only [putsFrom, Act.put, List.setIfInBounds_toArray, List.set_cons_zero, List.set_cons_succ, Nat.zero_add, Nat.reduceAdd, List.getD_cons_zero, List.getD_cons_succ]
              go_wp2_with (at_builtin; refine Lib.wpList_append_run _ rfl _ _ _ _ rfl _ _ rfl rfl _ _ (HRUN.out _) ?_)
              have hR := HR.out
              subst hR
              exact ⟨rfl, fun _ => rfl, rfl⟩
            case st_1 =>
              intro jj X g1 g2 hx
              obtain rfl : jj = 2 := Nat.le_antisymm (Nat.le_trans g2 (by decide +kernel)) (Nat.le_trans (by decide +kernel) g1)
              obtain rfl : X = Y2 := hx
              have k3 := P2.out; have f3 := PF.out
              generalize hR : (fun v w' => (_ → v = _) ∧ _) = RR
              have HR := hid hR
              clear hR g1 g2
              simp only [putsFrom, Act.put, List.setIfInBounds_toArray, List.set_cons_zero, List.set_cons_succ, Nat.zero_add, Nat.reduceAdd, List.getD_cons_zero, List.getD_cons_succ]
              go_wp2_with fail
              have hR := HR.out
              subst hR
              exact ⟨rfl, fun h => absurd rfl h, HY3.out.symm⟩
            all_goals
              intro jj X g1 g2 hx
              generalize hR : (fun v w' => (_ → v = _) ∧ _) = RR
              have HR := hid hR
              have HXX := hid hx
              clear hR g1 g2 hx
              try simp only [putsFrom, Act.put, List.setIfInBounds_toArray, List.set_cons_zero, List.set_cons_succ, Nat.zero_add, Nat.reduceAdd, List.getD_cons_zero, List.getD_cons_succ]
              go_wp2_with fail
              have hR := HR.out
              subst hR
              exact ⟨rfl, fun _ => rfl, HXX.out⟩
          · intro X hx
            obtain rfl : X = Y3 := hx
            simp only [putsFrom, Act.put, List.setIfInBounds_toArray, List.set_cons_zero, List.set_cons_succ, Nat.zero_add, Nat.reduceAdd, List.getD_cons_zero, List.getD_cons_succ]
            go_wp2_with fail
            go_roundw
            case rel => exact ⟨i, j + 2, a', c', by go_num, by omega, HJ2, HD3, hid (by rw [HDD.out]; exact HW3.out), HZ3, HOO0⟩
            case measure => first | (simp [intOf]; done) | (simp [intOf]; omega)
          · exact fun _ _ _ _ hx => hx.elim
        | zero =>
          have hneg : ¬ ((0 : Int) ≤ ((0 : Nat) : Int) - 1) := by omega
          obtain ⟨a1, ha1⟩ : ∃ q, q = a := ⟨_, rfl⟩
          obtain ⟨c1, hc1⟩ : ∃ q, q = c := ⟨_, rfl⟩
          obtain rfl : j = (dbl x.ss).length := HJ.out.symm
          rw [← ha1, ← hc1] at HS HW
          have SP := HS
          have OP1 : Hid (wr.ownsRow B1 50 4 (.slice a1 (dbl x.ss).length c1) (dbl x.ss).length (N.vCells (dbl x.ss))) := HW
          have OP0 := HO0
          have HG1 : Hid (w2.heap.size < B1) := hid (by have := HB1.out; omega)
          have hzp' : w3.heap.size ≤ wr.heap.size := SP.out.fr.size
          clear ha1 hc1
          obtain ⟨wq2, rfl⟩ : ∃ W : World, W = wr := ⟨_, rfl⟩
          obtain ⟨b0, b1, b2, b3, b4, b5⟩ := BX.out wq2 SP.out.fr
          go_upto_region 15 with fail
          clear b0 b1 b2 b3 b4 b5
          generalize hB2 : wq2.heap.size = B2 at *
          have HB2 := hid hB2
          have HL0 : Hid (∀ g, (Value.slice a0 (dbl x.rs).length c0).ownBlock = some g → g < B2) := hid fun g hg => by rw [← hB2]; exact (OP0.out.lt g hg).2
          have HL1 : Hid (∀ g, (Value.slice a1 (dbl x.ss).length c1).ownBlock = some g → g < B2) := hid fun g hg => by rw [← hB2]; exact (OP1.out.lt g hg).2
          clear hB2
          go_loopw [6] (fun tv wr => ∃ (m j : Nat) (a : Option Addr) (c : Nat), tv = .int .i64 ((m : Int) - 1) ∧ m ≤ x.ws.length ∧ Hid ((dbl (x.ws.drop m)).length = j) ∧ Hid (TSt w3 wr w2.heap.size #[.int .i64 x.s0, .int .i64 x.s1, .int .i64 x.s2, .slice a0 (dbl x.rs).length c0, .slice a1 (dbl x.ss).length c1, .slice a j c]) ∧ Hid (wr.ownsRow B2 33 1 (.slice a j c) j (K.fCells (dbl (x.ws.drop m)))) ∧ Hid (B2 ≤ wr.heap.size) ∧ Hid (wr.ownsRow B0 33 1 (.slice a0 (dbl x.rs).length c0) (dbl x.rs).length (K.fCells (dbl x.rs))) ∧ Hid (wr.ownsRow B1 50 4 (.slice a1 (dbl x.ss).length c1) (dbl x.ss).length (N.vCells (dbl x.ss)))) (fun tv _ => (intOf tv + 1).toNat)
          case atStart => exact ⟨x.ws.length, 0, none, 0, rfl, Nat.le_refl _, hid (by rw [drop_nil]; rfl), SP, hid (by rw [drop_nil]; exact ⟨rfl, .inl ⟨rfl, rfl⟩⟩), hid (by rw [← HB2.out]; exact Nat.le_refl _), OP0, OP1⟩
          case round =>
            obtain ⟨m, j, a, c, rfl, hm, HJ, HS, HW, HZ, HO0, HO1⟩ := hrel
            cases m with
            | succ i =>
              have ei : ((i + 1 : Nat) : Int) - 1 = (i : Int) := by omega
              rw [ei]
              have hge : (0 : Int) ≤ (i : Int) := by omega
              have hilt : i < x.ws.length := by omega
              have hat := ((HX.out.w).below (HB.out wr HS.out.fr))
              rcases hat.row with h0 | ⟨b, o, ha, hbl, hcl⟩
              · rw [h0] at hilt; simp at hilt
              have k9 := hcl i hilt
              have hy := fl_some hilt
              generalize x.ws[i]?.getD 0 = y at *
              have hdd := dbl_drop hy
              have hjl : j ≤ 120 := by rw [← HJ.out, dbl_len, List.length_drop]; omega
              obtain ⟨b0, b1, b2, b3, b4, b5⟩ := BX.out wr HS.out.fr
              obtain ⟨Y0, hY0⟩ : ∃ Y : World, Y = { wr with drawn := wr.drawn + 1 } := ⟨_, rfl⟩
              have hb0 : Below wr.heap.size wr Y0 := by rw [hY0]; exact Below.drew (Below.refl _ wr)
              have z0 : Y0.heap.size = wr.heap.size := by rw [hY0]
              have hTl := HS.out.lt
              have hzz := HZ.out
              have hzw := HS.out.fr.size
              have hxl : w.heap.size < wr.heap.size := by omega
              have d0 := HS.out.below hb0 hzw hTl
              have ww0 := HW.out.kept (K.grown_of_below hb0) (by cases (Value.slice a j c).ownBlock <;> simp)
              obtain ⟨a', c', Y2, hrun, hown2, hb2⟩ := appFF y HJ.out ww0 (by omega) (by omega)
              have d1 : TSt w3 (Y0.alloc (.cells #[.float .f64 y, .float .f64 y] 33)) w2.heap.size _ := d0.below (Below.alloc1 (Nat.le_refl _) (Below.refl _ Y0) _) (by omega) (by omega)
              have d2 := d0.below hb2 (by have := HB2.out; omega) (by have := HB2.out; omega)
              obtain ⟨d3, g3⟩ := d2.set 5 (.slice a' (j + 2) c')
              have ww3 := own_grown hown2 g3 (by have := HB2.out; omega)
              have oo0 := own_grown (own_at (HO0.out.kept (K.grown_of_below hb0) (by cases (Value.slice a0 (dbl x.rs).length c0).ownBlock <;> simp)) fun g hg => hb2.block g (HL0.out g hg)) g3 (by have := HG0.out; omega)
              have HOO0 := hid oo0
              have oo1 := own_grown (own_at (HO1.out.kept (K.grown_of_below hb0) (by cases (Value.slice a1 (dbl x.ss).length c1).ownBlock <;> simp)) fun g hg => hb2.block g (HL1.out g hg)) g3 (by have := HG1.out; omega)
              have HOO1 := hid oo1
              have zz3 : B2 ≤ (Y2.setCell ⟨w2.heap.size, 5, none⟩ (.slice a' (j + 2) c')).heap.size := by have h1 := g3.size; have h2 := hb2.size; omega
              have p0 := d0.cell 5; have p1 := d1.cell 5; have p2 := d2.cell 5; have pf := d2.fz 5
              simp only [List.getElem?_toArray, List.getElem?_cons_succ, List.getElem?_cons_zero] at p0 p1 p2
              have x0 : Y0.cell? ⟨w.heap.size, 5, none⟩ = some (.slice (some ⟨b, o, none⟩) x.ws.length x.wc) := by rw [← ha]; exact (hb0.cell (p := ⟨w.heap.size, 5, none⟩) hxl).trans b5
              have y0 := (hb0.cell (p := ⟨b, o + i, none⟩) hbl).trans k9
              have YS := hid y0
              clear y0 k9
              have P0 := hid p0; have P1 := hid p1; have P2 := hid p2; have PF := hid pf; have X0 := hid x0
              have HD3 := hid d3; have HW3 := hid ww3; have HZ3 := hid zz3; have HRUN := hid hrun; have HDD := hid hdd
              have HY0 := hid hY0; have HHA := hid ha
              have hJ := HJ.out
              have HJ2 : Hid ((dbl (x.ws.drop i)).length = j + 2) := hid (by rw [hdd, List.length_append, hJ]; rfl)
              obtain ⟨Y3, hY3⟩ : ∃ Y : World, Y = Y2.setCell ⟨w2.heap.size, 5, none⟩ (.slice a' (j + 2) c') := ⟨_, rfl⟩
              have HY3 := hid hY3
              rw [← hY3] at HD3 HW3 HZ3 HOO0 HOO1
              clear hcl hy hdd b0 b1 b2 b3 b4 b5 hY0 hb0 z0 d0 ww0 hrun hown2 hb2 d1 d2 d3 g3 ww3 zz3 p0 p1 p2 pf x0 hJ hat ha oo0 oo1 hzw hzz hY3
              go_upto_region 17 with fail
              refine wp_region_chain (fun q => [Value.pointer (some ⟨w2.heap.size, 5, none⟩), .slice a j c, .pointer (some ⟨w.heap.size, 5, none⟩), .slice (some ⟨b, o, none⟩) x.ws.length x.wc, .int .i64 (i : Nat), .pointer (some ⟨b, o + i, none⟩), .float .f64 y, .pointer (some ⟨w.heap.size, 5, none⟩), .slice (some ⟨b, o, none⟩) x.ws.length x.wc, .int .i64 (i : Nat), .pointer (some ⟨b, o + i, none⟩), .float .f64 y, .slice (some ⟨Y0.heap.size, 0, none⟩) 2 2, .slice a' (j + 2) c', .pointer (some ⟨w2.heap.size, 5, none⟩)].getD q undef) (fun q X => X = [Y0, Y0.alloc (.cells #[.float .f64 y, .float .f64 y] 33), Y2, Y3].getD q Y0) (fun _ _ => False) [12, 13, 15] rfl (by kernel_rfl) (by kernel_rfl) (by decide) (by decide) HY0.out.symm ?_ ?_ ?_
              · simp only [StepsC, List.nil_append, List.cons_append]
                refine ⟨?p0_2, ?l1_2, ?p2_2, ?l3_2, ?p4_2, ?p5_2, ?l6_2, ?p7_2, ?l8_2, ?p9_2, ?p10_2, ?l11_2, ?bs_2, ?ap_2, ?p14_2, ?st_2, trivial⟩
                case l1_2 =>
                  intro jj X g1 g2 hx
                  have hj : jj = 0 ∨ jj = 1 := by have : jj ≤ 1 := Nat.le_trans g2 (by decide +kernel); omega
                  have c4 : X.cell? ⟨w2.heap.size, 5, none⟩ = some (.slice a j c) := by
                    rw [hx]
                    rcases hj with rfl | rfl
                    · exact P0.out
                    · exact P1.out
                  generalize hR : (fun v w' => (_ → v = _) ∧ _) = RR
                  have HR := hid hR
                  have HXX := hid hx
                  clear hR g1 g2 hx
                  try simp only [putsFrom, Act.put, List.setIfInBounds_toArray, List.set_cons_zero, List.set_cons_succ, Nat.zero_add, Nat.reduceAdd, List.getD_cons_zero, List.getD_cons_succ]
                  go_wp2_with fail
                  have hR := HR.out
                  subst hR
                  exact ⟨rfl, fun _ => rfl, HXX.out⟩
                case l3_2 =>
                  intro jj X g1 g2 hx
                  obtain rfl : jj = 0 := Nat.le_zero.1 (Nat.le_trans g2 (by decide +kernel))
                  have c4 : X.cell? ⟨w.heap.size, 5, none⟩ = some (.slice (some ⟨b, o, none⟩) x.ws.length x.wc) := by rw [hx]; exact X0.out
                  generalize hR : (fun v w' => (_ → v = _) ∧ _) = RR
                  have HR := hid hR
                  have HXX := hid hx
                  clear hR g1 g2 hx
                  try simp only [putsFrom, Act.put, List.setIfInBounds_toArray, List.set_cons_zero, List.set_cons_succ, Nat.zero_add, Nat.reduceAdd, List.getD_cons_zero, List.getD_cons_succ]
                  go_wp2_with fail
                  have hR := HR.out
                  subst hR
                  exact ⟨rfl, fun _ => rfl, HXX.out⟩
                case l8_2 =>
                  intro jj X g1 g2 hx
                  obtain rfl : jj = 0 := Nat.le_zero.1 (Nat.le_trans g2 (by decide +kernel))
                  have c4 : X.cell? ⟨w.heap.size, 5, none⟩ = some (.slice (some ⟨b, o, none⟩) x.ws.length x.wc) := by rw [hx]; exact X0.out
                  generalize hR : (fun v w' => (_ → v = _) ∧ _) = RR
                  have HR := hid hR
                  have HXX := hid hx
                  clear hR g1 g2 hx
                  try simp only [putsFrom, Act.put, List.setIfInBounds_toArray, List.set_cons_zero, List.set_cons_succ, Nat.zero_add, Nat.reduceAdd, List.getD_cons_zero, List.getD_cons_succ]
                  go_wp2_with fail
                  have hR := HR.out
                  subst hR
                  exact ⟨rfl, fun _ => rfl, HXX.out⟩
                case l6_2 =>
                  intro jj X g1 g2 hx
                  obtain rfl : jj = 0 := Nat.le_zero.1 (Nat.le_trans g2 (by decide +kernel))
                  have c4 : X.cell? ⟨b, o + i, none⟩ = some (.float .f64 y) := by rw [hx]; exact YS.out
                  generalize hR : (fun v w' => (_ → v = _) ∧ _) = RR
                  have HR := hid hR
                  have HXX := hid hx
                  clear hR g1 g2 hx
                  try simp only [putsFrom, Act.put, List.setIfInBounds_toArray, List.set_cons_zero, List.set_cons_succ, Nat.zero_add, Nat.reduceAdd, List.getD_cons_zero, List.getD_cons_succ]
                  go_wp2_with fail
                  have hR := HR.out
                  subst hR
                  exact ⟨rfl, fun _ => rfl, HXX.out⟩
                case l11_2 =>
                  intro jj X g1 g2 hx
                  obtain rfl : jj = 0 := Nat.le_zero.1 (Nat.le_trans g2 (by decide +kernel))
                  have c4 : X.cell? ⟨b, o + i, none⟩ = some (.float .f64 y) := by rw [hx]; exact YS.out
                  generalize hR : (fun v w' => (_ → v = _) ∧ _) = RR
                  have HR := hid hR
                  have HXX := hid hx
                  clear hR g1 g2 hx
                  try simp only [putsFrom, Act.put, List.setIfInBounds_toArray, List.set_cons_zero, List.set_cons_succ, Nat.zero_add, Nat.reduceAdd, List.getD_cons_zero, List.getD_cons_succ]
                  go_wp2_with fail
                  have hR := HR.out
                  subst hR
                  exact ⟨rfl, fun _ => rfl, HXX.out⟩
                case bs_2 =>
                  intro jj X g1 g2 hx
                  obtain rfl : jj = 0 := Nat.le_zero.1 (Nat.le_trans g2 (by decide +kernel))
                  obtain rfl : X = Y0 := hx
                  generalize hR : (fun v w' => (_ → v = _) ∧ _) = RR
                  have HR := hid hR
                  clear hR g1 g2
                  simp only [putsFrom, Act.put, List.setIfInBounds_toArray, List.set_cons_zero, List.set_cons_succ, Nat.zero_add, Nat.reduceAdd, List.getD_cons_zero, List.getD_cons_succ]
                  go_wp2_with fail
                  have hR := HR.out
                  subst hR
                  exact ⟨rfl, fun _ => rfl, rfl⟩
                case ap_2 =>
                  intro jj X g1 g2 hx
                  obtain rfl : jj = 1 := Nat.le_antisymm (Nat.le_trans g2 (by decide +kernel)) (Nat.le_trans (by decide +kernel) g1)
                  obtain rfl : X = Y0.alloc (.cells #[.float .f64 y, .float .f64 y] 33) := hx
                  generalize hR : (fun v w' => (_ → v = _) ∧ _) = RR
                  have HR := hid hR
                  clear hR g1 g2
                  simp only [putsFrom, Act.put, List.setIfInBounds_toArray, List.set_cons_zero, List.set_cons_succ, Nat.zero_add, Nat.reduceAdd, List.getD_cons_zero, List.getD_cons_succ]
                  go_wp2_with (at_builtin; refine Lib.wpList_append_run _ rfl _ _ _ _ rfl _ _ rfl rfl _ _ (HRUN.out _) ?_)
                  have hR := HR.out
                  subst hR
                  exact ⟨rfl, fun _ => rfl, rfl⟩
                case st_2 =>
                  intro jj X g1 g2 hx
                  obtain rfl : jj = 2 := Nat.le_antisymm (Nat.le_trans g2 (by decide +kernel)) (Nat.le_trans (by decide +kernel) g1)
                  obtain rfl : X = Y2 := hx
                  have k3 := P2.out; have f3 := PF.out
                  generalize hR : (fun v w' => (_ → v = _) ∧ _) = RR
                  have HR := hid hR
                  clear hR g1 g2
                  simp only [putsFrom, Act.put, List.setIfInBounds_toArray, List.set_cons_zero, List.set_cons_succ, Nat.zero_add, Nat.reduceAdd, List.getD_cons_zero, List.getD_cons_succ]
                  go_wp2_with fail
                  have hR := HR.out
                  subst hR
                  exact ⟨rfl, fun h => absurd rfl h, HY3.out.symm⟩
                all_goals
                  intro jj X g1 g2 hx
                  generalize hR : (fun v w' => (_ → v = _) ∧ _) = RR
                  have HR := hid hR
                  have HXX := hid hx
                  clear hR g1 g2 hx
                  try simp only [putsFrom, Act.put, List.setIfInBounds_toArray, List.set_cons_zero, List.set_cons_succ, Nat.zero_add, Nat.reduceAdd, List.getD_cons_zero, List.getD_cons_succ]
                  go_wp2_with fail
                  have hR := HR.out
                  subst hR
                  exact ⟨rfl, fun _ => rfl, HXX.out⟩
              · intro X hx
                obtain rfl : X = Y3 := hx
                simp only [putsFrom, Act.put, List.setIfInBounds_toArray, List.set_cons_zero, List.set_cons_succ, Nat.zero_add, Nat.reduceAdd, List.getD_cons_zero, List.getD_cons_succ]
                go_wp2_with fail
                go_roundw
                case rel => exact ⟨i, j + 2, a', c', by go_num, by omega, HJ2, HD3, hid (by rw [HDD.out]; exact HW3.out), HZ3, HOO0, HOO1⟩
                case measure => first | (simp [intOf]; done) | (simp [intOf]; omega)
              · exact fun _ _ _ _ hx => hx.elim
            | zero =>
              have hneg : ¬ ((0 : Int) ≤ ((0 : Nat) : Int) - 1) := by omega
              obtain ⟨a2, ha2⟩ : ∃ q, q = a := ⟨_, rfl⟩
              obtain ⟨c2, hc2⟩ : ∃ q, q = c := ⟨_, rfl⟩
              obtain rfl : j = (dbl x.ws).length := HJ.out.symm
              rw [← ha2, ← hc2] at HS HW
              have SP := HS
              have OP2 : Hid (wr.ownsRow B2 33 1 (.slice a2 (dbl x.ws).length c2) (dbl x.ws).length (K.fCells (dbl x.ws))) := HW
              have OP0 := HO0
              have OP1 := HO1
              have HG2 : Hid (w2.heap.size < B2) := hid (by have := HB2.out; omega)
              have hzp' : w3.heap.size ≤ wr.heap.size := SP.out.fr.size
              clear ha2 hc2
              obtain ⟨wq3, rfl⟩ : ∃ W : World, W = wr := ⟨_, rfl⟩
              have lr : ∀ y ∈ x.rs, y < 2 ^ 64 := fun y hy => by
                obtain ⟨i, hi, rfl⟩ := List.getElem_of_mem hy
                have := HX.out.r.lt i hi
                rwa [List.getElem?_eq_getElem hi] at this
              have lw : ∀ y ∈ x.ws, y < 2 ^ 64 := fun y hy => by
                obtain ⟨i, hi, rfl⟩ := List.getElem_of_mem hy
                have := HX.out.w.lt i hi
                rwa [List.getElem?_eq_getElem hi] at this
              have ls : ∀ y ∈ x.ss, y.lo < 2 ^ 64 ∧ y.hi < 2 ^ 64 := fun y hy => by
                obtain ⟨i, hi, rfl⟩ := List.getElem_of_mem hy
                have := HX.out.s.lt i hi
                rwa [List.getElem?_eq_getElem hi] at this
              have d0 := dbl_len x.rs; have d1 := dbl_len x.ss; have d2 := dbl_len x.ws
              obtain ⟨Y, hY⟩ : ∃ Y : SubV, Y = ⟨x.s0, x.s1, x.s2, a0, c0, dbl x.rs, a1, c1, dbl x.ss, a2, c2, dbl x.ws⟩ := ⟨_, rfl⟩
              have hYA : Y.At wq3 := by
                rw [hY]
                exact ⟨K.own_fat rfl OP0.out (Nat.le_trans (Nat.le_of_eq d0) (by omega)) (fun y hy => lr y (dbl_mem.1 hy)), N.own_satV rfl OP1.out (Nat.le_trans (Nat.le_of_eq d1) (by omega)) (fun i hi => by
                  have hs := List.getElem_mem hi
                  rw [List.getElem?_eq_getElem hi, Option.getD_some]
                  exact ls _ (dbl_mem.1 hs)), K.own_fat rfl OP2.out (Nat.le_trans (Nat.le_of_eq d2) (by omega)) (fun y hy => lw y (dbl_mem.1 hy))⟩
              have hYF : K.Fits Y := by
                rw [hY]
                exact ⟨Nat.le_trans (Nat.le_of_eq d0) (by omega), Nat.le_trans (Nat.le_of_eq d1) (by omega), Nat.le_trans (Nat.le_of_eq d2) (by omega)⟩
              have hTS := turn_same (x := x) (y := Y) (by rw [hY]) (by rw [hY]) (by rw [hY]) (by rw [hY]) (by rw [hY]) (by rw [hY])
              have qT : wq3.heap[w2.heap.size]? = some (.cells #[.int .i64 Y.s0, .int .i64 Y.s1, .int .i64 Y.s2, .slice Y.ra Y.rs.length Y.rc, .slice Y.sa Y.ss.length Y.sc, .slice Y.wa Y.ws.length Y.wc] 25 (0, 0)) := by rw [hY]; exact SP.out.t
              have hfr := SP.out.fr
              have hTl := SP.out.lt
              have hz33 := hfr.size
              have hxA := HX.out.below (HB.out wq3 hfr)
              obtain ⟨b0, b1, b2, b3, b4, b5⟩ := BX.out wq3 hfr
              have QT := hid qT; have HFR := hid hfr; have HYA := hid hYA; have HXA := hid hxA; have HTS := hid hTS
              clear lr lw ls d0 d1 d2 hY qT OP0 OP1 OP2 SP hYA hxA hTS hfr
              go_upto_region 18 with fail
              go_wp2_with fail
              refine (canon_y x wq3 HXA.out HF.out).mono ?_
              rintro e w5 ⟨A, rfl, hAt, hb5, hAn⟩
              have hz5 := hb5.size
              clear b0 b1 b2 b3 b4 b5
              go_upto_region 19 with fail
              generalize hW6 : World.alloc _ _ = w6 at *
              have hb6 : Below w5.heap.size w5 w6 := by rw [← hW6]; exact below_auto
              have hz6 : w5.heap.size < w6.heap.size := by rw [← hW6]; simp
              have q6 : w6.heap[w5.heap.size]? = some (.cells #[.int .i64 A.s0, .int .i64 A.s1, .int .i64 A.s2, .slice A.ra A.rs.length A.rc, .slice A.sa A.ss.length A.sc, .slice A.wa A.ws.length A.wc] 25 (0, 0)) := by rw [← hW6]; simpa using heap_alloc_new w5 _
              have h36 := hb5.trans (hb6.mono hz5)
              have hA6 := hAt.below hb6
              clear hW6
              obtain ⟨b0, b1, b2, b3, b4, b5⟩ := box6 ((h36.block _ hTl).trans QT.out)
              have HY6 := canon_y Y w6 (HYA.out.below h36) hYF
              unfold CanonY at HY6
              rw [HTS.out.1] at HY6
              have HQ6 := hid q6; have HA6 := hid hA6; have H36 := hid h36
              clear q6 hA6 hAt hb5 hb6
              go_wp2_with fail
              refine HY6.mono ?_
              rintro e w7 ⟨Z, rfl, hZt, hb7, hZn⟩
              have hz7 := hb7.size
              clear b0 b1 b2 b3 b4 b5 HY6
              go_upto_region 20 with fail
              generalize hW8 : World.alloc _ _ = w8 at *
              have hb8 : Below w7.heap.size w7 w8 := by rw [← hW8]; exact below_auto
              have hz8 : w7.heap.size < w8.heap.size := by rw [← hW8]; simp
              have q8 : w8.heap[w7.heap.size]? = some (.cells #[.int .i64 Z.s0, .int .i64 Z.s1, .int .i64 Z.s2, .slice Z.ra Z.rs.length Z.rc, .slice Z.sa Z.ss.length Z.sc, .slice Z.wa Z.ws.length Z.wc] 25 (0, 0)) := by rw [← hW8]; simpa using heap_alloc_new w7 _
              have h68 := hb7.trans (hb8.mono hz7)
              have h38 := H36.out.trans (h68.mono H36.out.size)
              have hr := HB.out w8 (grown_below HFR.out h38 hz33)
              have q68 := (h68.block _ hz6).trans HQ6.out
              have hA8 := HA6.out.below h68
              have hZ8 := hZt.below hb8
              clear hW8
              by_cases hc : K.canC x = 0
              · have hA0 := hAn hc
                have hZ0 := (hZn hc).trans HTS.out.2
                have hck := norm_check hc
                have HS := subSame_any A Z w8 hA8 hZ8
                rw [(eqX_iff A Z).2 ⟨hA0.check.trans hck, hZ0.check.trans hck, hA0.trans hZ0.symm⟩] at HS
                obtain ⟨b0, b1, b2, b3, b4, b5⟩ := box6 q68
                obtain ⟨g0, g1, g2, g3, g4, g5⟩ := box6 q8
                have HR := hid hr
                rw [hc]
                clear hAn hZn hA0 hZ0 hck q68 q8 hA8 hZ8 hZt hb7 hb8 h68 h38 hr hc
                go_wp2_with fail
                refine HS.mono ?_
                rintro e w9 ⟨rfl, hb9⟩
                have hr9 := HR.out.trans (hb9.mono HR.out.size)
                go_wp2_with fail
                go_ret
                exact ⟨rfl, hr9⟩
              · have hcb : (K.canC x != 0) = true := by simpa using hc
                clear hAn hZn q68 q8 hA8 hZ8 hZt hb7 hb8 h68 h38
                generalize K.canC x = cc at *
                go_wp2_with fail
                go_ret
                exact ⟨rfl, hr⟩

end Go.Proofs.YtgpkfgeflcdbcaaGreat.P
