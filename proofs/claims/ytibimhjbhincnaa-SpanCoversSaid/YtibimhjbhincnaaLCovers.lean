/- The walk of SpanCovers. -/
import Derived.Test.YtibimhjbhincnaaLNorms
import Derived.Test.YtibimhjbhincnaaS2
import Derived.Test.YtibimhjbhincnaaG2
namespace Go.Proofs.Ytibimhjbhincnaa.N
set_option linter.unusedVariables false
open Go.RowKit Fl

/-- Some span has the key. -/
def someB (ss : List SpanV) (key : Nat) : Bool := ss.any fun s => hasB s.rg key
theorem someB_nan (ss : List SpanV) {key : Nat} (h : isNaN key = true) : someB ss key = false := by
  unfold someB
  rw [List.any_eq_false]
  intro s _
  rw [hasB_nan _ h]; simp
theorem some_cov (ss : List SpanV) {key : Nat} (h : isNaN key = false) : someB ss key = true ↔ covL (forms ss) (kof key).v := by
  unfold someB
  rw [List.any_eq_true]
  constructor
  · rintro ⟨s, hs, hb⟩
    rcases hr : s.rg with _ | ⟨l, h'⟩
    · rw [hr] at hb; cases hb
    · rw [hr, hasB_num _ _ h, decide_eq_true_eq] at hb
      exact ⟨⟨l, h', canonS_le hr⟩, List.mem_flatMap.2 ⟨s, hs, by rw [fO_some hr]; simp⟩, hb⟩
  · rintro ⟨x, hx, hb⟩
    obtain ⟨s, hs, hxs⟩ := List.mem_flatMap.1 hx
    refine ⟨s, hs, ?_⟩
    rcases hr : s.rg with _ | ⟨l, h'⟩
    · rw [fO_none hr] at hxs; cases hxs
    · rw [fO_some hr, List.mem_singleton] at hxs
      subst hxs
      rw [hasB_num _ _ h, decide_eq_true_eq]
      exact hb
theorem covL_nil_or (l : List RK) (v : Int) : covL [] v ∨ covL l v ↔ covL l v := ⟨fun h => h.resolve_left (covL_nil v), .inr⟩
theorem norm_cov (l : List RK) (v : Int) : covL (refAllN [] l) v ↔ covL l v := by
  rw [(refAllN_spec l [] List.Pairwise.nil).2 v, covL_nil_or]
theorem norm_gapped (l : List RK) : gapped (refAllN [] l) := (refAllN_spec l [] List.Pairwise.nil).1
/-- What is normed covers the same keys. -/
theorem someB_norm (ss : List SpanV) (key : Nat) : someB ((refAllN [] (forms ss)).map RK.raw) key = someB ss key := by
  cases hn : isNaN key
  · rw [Bool.eq_iff_iff, some_cov _ hn, some_cov _ hn, raw_forms, norm_cov]
  · rw [someB_nan _ hn, someB_nan _ hn]
theorem norm_back (ss : List SpanV) : refAllN [] (forms ss.reverse) = refAllN [] (forms ss) := by
  refine gapped_ext (norm_gapped _) (norm_gapped _) fun v => ?_
  rw [norm_cov, norm_cov]
  refine covL_perm (fun x => ?_) v
  unfold forms
  rw [List.mem_flatMap, List.mem_flatMap]
  simp
theorem norm_twice (l : List RK) : refAllN [] (forms ((refAllN [] l).map RK.raw)) = refAllN [] l := by
  rw [raw_forms]
  exact gapped_ext (norm_gapped _) (norm_gapped _) fun v => by rw [norm_cov]

/-- A raw span is added. -/
theorem appV {w : World} {base : Nat} {a : Option Addr} {c : Nat} {l : List SpanV} (s : SpanV) (hown : w.ownsRow base 24 4 (.slice a l.length c) l.length (vCells l)) (hbase : base ≤ w.heap.size) (hl : l.length ≤ 5864062014804) :
    ∃ a' c' w', (∀ ty, (Builtin.append_ #[44, 44] ty #[.slice a l.length c, .slice (some ⟨w.heap.size, 0, none⟩) 1 1]).run Try.prog (w.alloc (.cells #[.float .f64 s.lo, .float .f64 s.hi, .bool s.a, .bool s.b] 24)) = .ok (.slice a' (l.length + 1) c') w') ∧
      w'.ownsRow base 24 4 (.slice a' (l.length + 1) c') (l.length + 1) (vCells (l ++ [s])) ∧ Below base w w' := by
  obtain ⟨i0, hi0, hz0, hzs, hzb⟩ := info_parts spanInfo
  have hb1 : Below w.heap.size w (w.alloc (.cells #[.float .f64 s.lo, .float .f64 s.hi, .bool s.a, .bool s.b] 24)) := by (repeat (first | with_reducible exact Below.refl _ _ | ((with_reducible refine Below.alloc1 ?_ ?_ _); (· first | omega | (simp; done) | (simp; omega))) | (with_reducible refine Below.drew ?_) | (with_reducible refine below_drewN' ?_ _) | ((with_reducible refine Below.setCell1 ?_ ?_ _); (· first | omega | (simp; done) | (simp; omega))) | ((with_reducible refine Below.after (by assumption) ?_ ?_); (· first | omega | (simp; done) | (simp; omega)))))
  have hown1 := hown.kept (grown_of_below hb1) (by cases (Value.slice a l.length c).ownBlock <;> simp)
  obtain ⟨v', w', hr, h2, h3⟩ := run_append_own2 (P := Try.prog) (w.alloc (.cells #[.float .f64 s.lo, .float .f64 s.hi, .bool s.a, .bool s.b] 24)) base 44 24 i0 _ 4 24 Try.underlying44 hi0 hz0 hzs hzb rfl (by omega) _ _ _ hown1 ⟨w.heap.size, 0, none⟩ 1 1 (encV s) rfl
    (fun j u hj => by
      have hrow : (w.alloc (.cells #[.float .f64 s.lo, .float .f64 s.hi, .bool s.a, .bool s.b] 24)).heap[w.heap.size]? = some (.cells #[.float .f64 s.lo, .float .f64 s.hi, .bool s.a, .bool s.b] 24 (0, 0)) := heap_alloc_new w _
      rw [addr0, cell_row hrow]
      rw [← hj]; simp [encV]) (encV_one s) (by omega) (by unfold maxLen; omega) (by omega) (by simp; omega)
  have hc : vCells l ++ encV s = vCells (l ++ [s]) := by simp [vCells]
  rw [hc] at h2
  have hv : ∃ va vc, v' = .slice va (l.length + 1) vc := by
    rcases h2.2 with ⟨rfl, h4⟩ | ⟨g, cap, cur, rfl, _⟩
    · omega
    · exact ⟨_, _, rfl⟩
  obtain ⟨a', c', rfl⟩ := hv
  exact ⟨a', c', w', hr, h2, (hb1.mono hbase).grown h3.1 (by simp; omega) (fun k hk => (hown.lt k hk).1)⟩

def s12 : List SpanV := [⟨4607182418800017408, 4611686018427387904, false, false⟩]
theorem s12_at (W : World) : SAt (W.alloc (.cells #[.float .f64 4607182418800017408, .float .f64 4611686018427387904, .bool false, .bool false] 24)) (some ⟨W.heap.size, 0, none⟩) s12 := by
  refine ⟨.inr ⟨W.heap.size, 0, rfl, by simp, fun i hi => ?_⟩, fun i hi => ?_, by unfold maxLen; show 1 ≤ _; omega⟩
  · have : i = 0 := by have : i < 1 := hi; omega
    subst this; simp only [s12]; refine ⟨?_, ?_, ?_, ?_⟩ <;> go_simp
  · have : i = 0 := by have : i < 1 := hi; omega
    subst this; simp [s12]
theorem s12_has : (s12.any fun s => hasB s.rg 4607182418800017408) = true := by
  simp only [s12, List.any_cons, List.any_nil, Bool.or_false, SpanV.rg]
  rw [canonS_lit _ _ (by unfold inf; omega) (by unfold inf; omega) (by omega), hasB_some, klit_nan _ (by unfold inf; omega), klit_kof _ (by unfold inf; omega)]
  simp [klit]

set_option maxHeartbeats 1000000 in
set_option maxRecDepth 100000 in
theorem spanCovers_walk (a : Option Addr) (n c : Nat) (ss : List SpanV) (key : Nat) (w : World) (hn : ss.length = n) (h : SAt w a ss) (hlen : n ≤ 5864062014634) (hk : key < 2 ^ 64) :
    Calls Try.prog 14 #[.slice a n c, .float .f64 key] w (Ret (.bool true) w) := by
  have HN := hid hn; have HS := hid h
  clear hn h
  go_enter Try.func14, Try.ntmps14
  go_wp2_with (go_at_call 25; (with_reducible refine (at_any _ _ _).mono ?_); rintro e w1 ⟨rfl, hb1⟩; obtain ⟨hc1, hf1⟩ := bcell hb1; (try simp only [World.heap_drewN, World.cell?_drewN, World.frozen?_drewN] at hc1 hf1); have hz1 := hb1.size; (try simp at hz1); (try have hy1_0 : w.heap.size < w1.heap.size := by omega); (try have hy1_1 : w.heap.size + 1 < w1.heap.size := by omega); (try have hy1_2 : w.heap.size + 2 < w1.heap.size := by omega); (try have hy1_3 : w.heap.size + 3 < w1.heap.size := by omega); (try have hx1_0 : w.heap.size ≤ w1.heap.size := by omega); (try have hx1_1 : w.heap.size + 1 ≤ w1.heap.size := by omega); (try have hx1_2 : w.heap.size + 2 ≤ w1.heap.size := by omega))
  have hcv := covers_any (some ⟨w1.heap.size, 0, none⟩) 1 4607182418800017408 s12 1 _ rfl (s12_at w1)
  rw [s12_has] at hcv
  refine hcv.mono ?_
  clear hcv
  rintro e w2 ⟨rfl, hb2⟩
  have hbx : Below w.heap.size w w2 := by (repeat (first | with_reducible exact Below.refl _ _ | ((with_reducible refine Below.alloc1 ?_ ?_ _); (· first | omega | (simp; done) | (simp; omega))) | (with_reducible refine Below.drew ?_) | (with_reducible refine below_drewN' ?_ _) | ((with_reducible refine Below.setCell1 ?_ ?_ _); (· first | omega | (simp; done) | (simp; omega))) | ((with_reducible refine Below.after (by assumption) ?_ ?_); (· first | omega | (simp; done) | (simp; omega)))))
  have hz2 := hbx.size
  clear hb1 hc1 hf1 hb2
  have h00 : Hid ((w2.alloc (.cells #[] 24)).ownsRow w2.heap.size 24 4 (.slice (some ⟨w2.heap.size, 0, none⟩) 0 0) 0 (vCells (ss.reverse.take 0))) :=
    hid ⟨rfl, .inr ⟨w2.heap.size, 0, #[], rfl, Nat.le_refl _, heap_alloc_new w2 _, Nat.le_refl _, by unfold maxLen; omega, rfl, rfl⟩⟩
  have hb00 : Below w2.heap.size w2 (w2.alloc (.cells #[] 24)) := by (repeat (first | with_reducible exact Below.refl _ _ | ((with_reducible refine Below.alloc1 ?_ ?_ _); (· first | omega | (simp; done) | (simp; omega))) | (with_reducible refine Below.drew ?_) | (with_reducible refine below_drewN' ?_ _) | ((with_reducible refine Below.setCell1 ?_ ?_ _); (· first | omega | (simp; done) | (simp; omega))) | ((with_reducible refine Below.after (by assumption) ?_ ?_); (· first | omega | (simp; done) | (simp; omega)))))
  have HR : Hid (ss.reverse.length = n) := hid (by rw [List.length_reverse]; exact HN.out)
  go_wp2_with fail
  go_loopw [16, 5, 6] (fun iv sv bv wr => ∃ (i : Nat) (u : Option Addr) (cu : Nat), i ≤ n ∧ iv = .int .i64 i ∧ sv = .bool (someB (ss.take i) key) ∧ bv = .slice u i cu ∧ Hid (wr.ownsRow w2.heap.size 24 4 (.slice u i cu) i (vCells (ss.reverse.take i))) ∧ Below w2.heap.size w2 wr) (fun iv _ _ _ => n - (intOf iv).toNat)
  case atStart => exact ⟨0, some ⟨w2.heap.size, 0, none⟩, 0, Nat.zero_le _, rfl, rfl, rfl, h00, hb00⟩
  case round =>
    obtain ⟨i, u, cu, hin, rfl, rfl, rfl, HO, hb⟩ := hrel
    have hz := hb.size
    have hbw : Below w.heap.size w wr := hbx.trans (hb.mono hz2)
    have HSw := HS.out.below hbw
    by_cases hlt : i < n
    · have hlt' : (i : Int) < (n : Int) := by omega
      have hil : i < ss.length := by rw [HN.out]; exact hlt
      have hjl : n - 1 - i < ss.length := by rw [HN.out]; omega
      have hx := hid (sp_some hil)
      have hT : someB (ss.take (i + 1)) key = (someB (ss.take i) key || hasB (ss[i]?.getD default).rg key) := by
        unfold someB
        rw [List.take_add_one, hx.out, List.any_append]; simp
      have hy : Hid (ss.reverse.take (i + 1) = ss.reverse.take i ++ [ss[n - 1 - i]?.getD default]) := hid (by
        rw [List.take_add_one, List.getElem?_reverse hil, HN.out, sp_some hjl]; rfl)
      have hrl : (ss.reverse.take i).length = i := by rw [List.length_take, HR.out]; omega
      obtain ⟨l1, l2⟩ := HSw.lt i hil
      rcases HSw.row with h0 | ⟨g, o, rfl, hg, hcs⟩
      · rw [h0] at hil; simp at hil
      obtain ⟨d0, d1, d2, d3⟩ := hcs i hil
      obtain ⟨e0, e1, e2, e3⟩ := hcs (n - 1 - i) hjl
      have hsub : (n : Int) - 1 - (i : Int) = ((n - 1 - i : Nat) : Int) := by omega
      have hsub2 : ((n - 1 - i : Nat) : Int) < (n : Int) := by omega
      have hsub3 : (0 : Int) ≤ ((n - 1 - i : Nat) : Int) := by omega
      clear hcs hx hil hjl
      generalize ss[n - 1 - i]?.getD default = y at *
      generalize ss[i]?.getD default = x at *
      generalize n - 1 - i = q at *
      have hown := HO.out
      have one : ∀ W, Below wr.heap.size wr W → ∃ a' c' w', (∀ ty, (Builtin.append_ #[44, 44] ty #[.slice u i cu, .slice (some ⟨W.heap.size, 0, none⟩) 1 1]).run Try.prog (W.alloc (.cells #[.float .f64 y.lo, .float .f64 y.hi, .bool y.a, .bool y.b] 24)) = .ok (.slice a' (i + 1) c') w') ∧
          Hid (w'.ownsRow w2.heap.size 24 4 (.slice a' (i + 1) c') (i + 1) (vCells (ss.reverse.take (i + 1)))) ∧ Below w2.heap.size w2 w' := fun W hW => by
        have hownW := hown.kept (grown_of_below hW) (by cases (Value.slice u i cu).ownBlock <;> simp)
        have hzW := hW.size
        obtain ⟨a', c', w', hr, ho', hb'⟩ := appV (l := ss.reverse.take i) (c := cu) (a := u) y (by rw [hrl]; exact hownW) (by omega) (by rw [hrl]; omega)
        rw [hrl] at hr ho'
        exact ⟨a', c', w', hr, hid (by rw [hy.out]; exact ho'), hb.trans ((hW.mono hz).trans hb')⟩
      clear hown hrl hy
      cases hP : someB (ss.take i) key
      · rw [hP] at hT
        have HH := fun W => has_is x.lo x.hi x.a x.b key (hasB x.rg key) W l1 l2 (hid rfl)
        generalize hasB x.rg key = v at *
        have HT : Hid (someB (ss.take (i + 1)) key = v) := hid (by rw [hT]; rfl)
        clear hT hP
        go_upto_region 9 with (go_at_call 24; (with_reducible refine (HH _).mono ?_); rintro e w3 ⟨rfl, hb3⟩; obtain ⟨hc3, hf3⟩ := bcell hb3; (try simp only [World.heap_drewN, World.cell?_drewN, World.frozen?_drewN] at hc3 hf3); have hz3 := hb3.size; (try simp at hz3); (try have hy3_0 : w.heap.size < w3.heap.size := by omega); (try have hy3_1 : w.heap.size + 1 < w3.heap.size := by omega); (try have hy3_2 : w.heap.size + 2 < w3.heap.size := by omega); (try have hy3_3 : w.heap.size + 3 < w3.heap.size := by omega); (try have hx3_0 : w.heap.size ≤ w3.heap.size := by omega); (try have hx3_1 : w.heap.size + 1 ≤ w3.heap.size := by omega); (try have hx3_2 : w.heap.size + 2 ≤ w3.heap.size := by omega); (try have hu3_wr_0 : wr.heap.size < w3.heap.size := by omega); (try have hu3_wr_1 : wr.heap.size + 1 < w3.heap.size := by omega))
        obtain ⟨a', c', w', hr, HO', hb'⟩ := one w3 (by (repeat (first | with_reducible exact Below.refl _ _ | ((with_reducible refine Below.alloc1 ?_ ?_ _); (· first | omega | (simp; done) | (simp; omega))) | (with_reducible refine Below.drew ?_) | (with_reducible refine below_drewN' ?_ _) | ((with_reducible refine Below.setCell1 ?_ ?_ _); (· first | omega | (simp; done) | (simp; omega))) | ((with_reducible refine Below.after (by assumption) ?_ ?_); (· first | omega | (simp; done) | (simp; omega))))))
        clear one
        go_wp2_with (at_builtin; refine Lib.wpList_append_run _ rfl _ _ _ _ rfl _ _ rfl rfl _ _ (hr _) ?_)
        go_roundw
        case rel => exact ⟨i + 1, a', c', by omega, by go_num, by rw [HT.out], rfl, HO', hb'⟩
        case measure => simp [intOf]; omega
      · rw [hP] at hT
        have HT : Hid (someB (ss.take (i + 1)) key = true) := hid (by rw [hT]; rfl)
        clear hT hP
        obtain ⟨a', c', w', hr, HO', hb'⟩ := one wr (Below.refl _ _)
        clear one
        go_wp2_with (at_builtin; refine Lib.wpList_append_run _ rfl _ _ _ _ rfl _ _ rfl rfl _ _ (hr _) ?_)
        go_roundw
        case rel => exact ⟨i + 1, a', c', by omega, by go_num, by rw [HT.out], rfl, HO', hb'⟩
        case measure => simp [intOf]; omega
    · obtain rfl : i = n := by omega
      have htk : ss.take i = ss := by rw [← HN.out, List.take_length]
      have htr : ss.reverse.take i = ss.reverse := by rw [← HR.out, List.take_length]
      have hown := HO.out
      rw [htr] at hown
      rw [htk]
      have hback := own_satV HR.out hown (by omega) (fun j hj => by
        have hj' : j < ss.length := by simpa using hj
        rw [List.getElem?_reverse hj']
        exact HS.out.lt _ (by omega))
      have hcB : ∀ W, SAt W a ss → Calls Try.prog 51 #[.slice a i c, .float .f64 key] W (Ret (.bool (someB ss key)) W) := fun W hW => covers_any a c key ss i W HN.out hW
      have hcN : ∀ (W : World) (a4 : Option Addr) (c4 : Nat), SAt W a4 ((refAllN [] (forms ss)).map RK.raw) → Calls Try.prog 51 #[.slice a4 (refAllN [] (forms ss)).length c4, .float .f64 key] W (Ret (.bool (someB ss key)) W) := fun W a4 c4 hW => by
        have := covers_any a4 c4 key ((refAllN [] (forms ss)).map RK.raw) (refAllN [] (forms ss)).length W (by simp) hW
        rw [← someB_norm]
        exact this
      have hGl : (refAllN [] (forms ss)).length ≤ i := by
        have h1 := refAllN_len (forms ss) []
        have h2 := forms_le ss
        rw [HN.out] at h2
        simp at h1; omega
      have hnB : ∀ W, SAt W u ss.reverse → Calls Try.prog 47 #[.slice u i cu] W (NormRet W (refAllN [] (forms ss))) := fun W hW => by
        rw [← norm_back]; exact norm_any' u cu ss.reverse i W HR.out hW hlen
      have hnN : ∀ (W : World) (a4 : Option Addr) (c4 : Nat), SAt W a4 ((refAllN [] (forms ss)).map RK.raw) → Calls Try.prog 47 #[.slice a4 (refAllN [] (forms ss)).length c4] W (NormRet W (refAllN [] (forms ss))) := fun W a4 c4 hW => by
        have := norm_any' a4 c4 ((refAllN [] (forms ss)).map RK.raw) (refAllN [] (forms ss)).length W (by simp) hW (by omega)
        rw [norm_twice] at this
        exact this
      have hnA := norm_any' a c ss i wr HN.out HSw hlen
      generalize refAllN [] (forms ss) = G at *
      generalize someB ss key = P at *
      clear HO hown htr htk h00
      go_wp2_with fail
      refine hnA.mono ?_
      rintro e w4 ⟨a4, c4, rfl, hown4, hb4⟩
      clear hnA
      have hs4 := own_sat hown4 (by omega)
      have hbw4 : Below w.heap.size w w4 := hbw.trans (hb4.mono hbw.size)
      have hS4 := HS.out.below hbw4
      have hB4 := hback.below hb4
      clear hown4 hback HSw
      cases P
      all_goals
        go_wp2_with fail
        refine (hcB w4 hS4).mono ?_
        rintro e w5 ⟨rfl, hb5⟩
        have hs5 := hs4.below hb5
        have hB5 := hB4.below hb5
        go_wp2_with fail
        refine (hcN w5 a4 c4 hs5).mono ?_
        rintro e w6 ⟨rfl, hb6⟩
        have hs6 := hs5.below hb6
        have hB6 := hB5.below hb6
        go_wp2_with fail
        refine (hnB w6 hB6).mono ?_
        rintro e w7 ⟨a7, c7, rfl, hown7, hb7⟩
        have hs7 := hs6.below hb7
        go_wp2_with fail
        refine (refSameS_any a7 a4 c7 c4 G.length G.length (G.map RK.raw) (G.map RK.raw) true w7 (by simp) (by simp) (own_sat hown7 (by omega)) hs7 (by simp)).mono ?_
        rintro e w8 ⟨rfl, hb8⟩
        have hs8 := hs7.below hb8
        go_wp2_with fail
        refine (hnN w8 a4 c4 hs8).mono ?_
        rintro e w9 ⟨a9, c9, rfl, hown9, hb9⟩
        have hs9 := hs8.below hb9
        go_wp2_with fail
        refine (refSameS_any a9 a4 c9 c4 G.length G.length (G.map RK.raw) (G.map RK.raw) true w9 (by simp) (by simp) (own_sat hown9 (by omega)) hs9 (by simp)).mono ?_
        rintro e w10 ⟨rfl, hb10⟩
        have z5 := hb5.size; have z6 := hb6.size; have z7 := hb7.size; have z8 := hb8.size; have z9 := hb9.size
        have z4 := hbw4.size
        go_wp2_with fail
        go_ret
        exact ⟨rfl, hbw4.trans ((hb5.mono z4).trans ((hb6.mono (by omega)).trans ((hb7.mono (by omega)).trans ((hb8.mono (by omega)).trans ((hb9.mono (by omega)).trans (hb10.mono (by omega)))))))⟩
end Go.Proofs.Ytibimhjbhincnaa.N
