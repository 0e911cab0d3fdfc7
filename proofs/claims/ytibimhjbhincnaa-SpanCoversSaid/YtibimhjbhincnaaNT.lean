/- The document's Spans and Same over rows of spans. -/
import Derived.Test.YtibimhjbhincnaaNRN
namespace Go.Proofs.Ytibimhjbhincnaa.N
set_option linter.unusedVariables false
open Go.RowKit Fl

/-- A form as it lies. -/
def RK.raw (k : RK) : SpanV := ⟨k.lo.bits, k.hi.bits, false, false⟩
theorem raw_rg (k : RK) : (RK.raw k).rg = some (k.lo, k.hi) := canonS_canon _ _ k.le
theorem raw_fO (k : RK) : fO (RK.raw k) = [k] := by
  rw [fO_some (raw_rg k)]
theorem raw_forms (l : List RK) : forms (l.map RK.raw) = l := by
  induction l with
  | nil => rfl
  | cons x l ih =>
    show fO (RK.raw x) ++ forms (l.map RK.raw) = _
    rw [raw_fO, ih]; rfl
theorem raw_inj {l l' : List RK} (h : l.map RK.raw = l'.map RK.raw) : l = l' := by rw [← raw_forms l, h, raw_forms]
/-- An own row of forms is a row of spans. -/
theorem own_sat {w : World} {base : Nat} {a : Option Addr} {c : Nat} {l : List RK} (h : w.ownsRow base 24 4 (.slice a l.length c) l.length (sCells l)) (hl : l.length ≤ 5864062014634) : SAt w a (l.map RK.raw) := by
  have at0 : ∀ i, i < l.length → (l.map RK.raw)[i]?.getD default = RK.raw (l[i]?.getD default) := fun i hi => by simp [List.getElem?_eq_getElem hi]
  refine ⟨?_, fun i hi => ?_, by simp; unfold maxLen; omega⟩
  · rcases h.2 with ⟨h1, h2⟩ | ⟨g, cap, cur, h1, _⟩
    · exact .inl (by rw [List.eq_nil_of_length_eq_zero h2]; rfl)
    · cases h1
      have hcl := h.cells (g := g) rfl
      refine .inr ⟨g, 0, rfl, (h.lt g rfl).2, fun i hi => ?_⟩
      have hi' : i < l.length := by simpa using hi
      have hx : l[i]? = some (l[i]?.getD default) := by rw [List.getElem?_eq_getElem hi']; rfl
      rw [at0 i hi', Nat.zero_add]
      have at' : ∀ t v, t < 4 → (enc (l[i]?.getD default))[t]? = some v → w.cell? ⟨g, i * 4 + t, none⟩ = some v := fun t v ht hv => by rw [← addr0]; exact hcl _ v ((flat_get enc_len hx ht).trans hv)
      exact ⟨at' 0 _ (by omega) rfl, at' 1 _ (by omega) rfl, at' 2 _ (by omega) rfl, at' 3 _ (by omega) rfl⟩
  · have hi' : i < l.length := by simpa using hi
    rw [at0 i hi']
    exact ⟨Key.bits_lt _, Key.bits_lt _⟩

set_option maxHeartbeats 1000000 in
set_option maxRecDepth 100000 in
theorem refSpans_any (a : Option Addr) (c base : Nat) (l : List RK) (w : World) (hown : w.ownsRow base 28 2 (.slice a l.length c) l.length (rCells l)) (hlen : l.length ≤ 5864062014634) :
    Calls Try.prog 49 #[.slice a l.length c] w (NormRet w l) := by
  obtain ⟨m, hm⟩ : ∃ m, l.length = m := ⟨_, rfl⟩
  rw [hm] at hown hlen ⊢
  have HM := hid hm
  have HC : Hid (∀ W, Below w.heap.size w W → ∀ k, k < m → ∃ g, a = some ⟨g, 0, none⟩ ∧ g < w.heap.size ∧ W.cell? ⟨g, k * 2, none⟩ = some (.int .u64 (kcode (l[k]?.getD default).lo)) ∧ W.cell? ⟨g, k * 2 + 1, none⟩ = some (.int .u64 (kcode (l[k]?.getD default).hi))) := hid fun W hW k hk => row_cells hown HM.out w.heap.size (Nat.le_refl _) W (fun j hj => hW.block j hj) k hk
  have h00 : Below w.heap.size w (w.alloc (.cells #[] 24)) := by (repeat (first | with_reducible exact Below.refl _ _ | ((with_reducible refine Below.alloc1 ?_ ?_ _); (· first | omega | (simp; done) | (simp; omega))) | (with_reducible refine Below.drew ?_) | (with_reducible refine below_drewN' ?_ _) | ((with_reducible refine Below.setCell1 ?_ ?_ _); (· first | omega | (simp; done) | (simp; omega))) | ((with_reducible refine Below.after (by assumption) ?_ ?_); (· first | omega | (simp; done) | (simp; omega)))))
  have H0 : Hid ((w.alloc (.cells #[] 24)).ownsRow w.heap.size 24 4 (.slice (some ⟨w.heap.size, 0, none⟩) 0 0) 0 []) :=
    hid ⟨rfl, .inr ⟨w.heap.size, 0, #[], rfl, Nat.le_refl _, heap_alloc_new w _, Nat.le_refl _, by unfold maxLen; omega, rfl, rfl⟩⟩
  clear hm hown
  go_enter Try.func49, Try.ntmps49
  go_wp2
  go_loopw [4, 3] (fun iv uv wr => ∃ (i : Nat) (u : Option Addr) (cu : Nat), i ≤ m ∧ iv = .int .i64 i ∧ uv = .slice u (l.take i).length cu ∧ Hid (wr.ownsRow w.heap.size 24 4 (.slice u (l.take i).length cu) (l.take i).length (sCells (l.take i))) ∧ Below w.heap.size w wr) (fun iv _ _ => m - (intOf iv).toNat)
  case atStart => exact ⟨0, some ⟨w.heap.size, 0, none⟩, 0, Nat.zero_le _, rfl, rfl, H0, h00⟩
  case round =>
    obtain ⟨i, u, cu, hin, rfl, rfl, HO, hb⟩ := hrel
    have hz := hb.size
    have hlt0 : (l.take i).length = i := by rw [List.length_take, HM.out]; omega
    by_cases hlt : i < m
    · have hlt' : (i : Int) < (m : Int) := by omega
      obtain ⟨g, rfl, hg, e0, e1⟩ := HC.out wr hb i hlt
      have hx : l[i]? = some (l[i]?.getD default) := by rw [List.getElem?_eq_getElem (by rw [HM.out]; omega)]; rfl
      have HT : Hid (l.take (i + 1) = l.take i ++ [l[i]?.getD default]) := hid (by rw [List.take_add_one, hx]; rfl)
      have HO0 := HO.out
      generalize l[i]?.getD default = x at *
      have hgw : g < wr.heap.size := by omega
      rw [hlt0] at HO ⊢
      have Hl0 := hid hlt0
      clear hlt0 hx
      have HSp : ∀ W, Calls Try.prog 19 #[.agg #[.int .u64 (kcode x.lo), .int .u64 (kcode x.hi)]] W (Ret (.agg #[.float .f64 x.lo.bits, .float .f64 x.hi.bits, .bool false, .bool false]) W) := fun W => refSpan_some x.lo x.hi x.le W
      have one : ∀ W, Below wr.heap.size wr W → ∃ a' c' w', (∀ ty, (Builtin.append_ #[44, 44] ty #[.slice u i cu, .slice (some ⟨W.heap.size, 0, none⟩) 1 1]).run Try.prog (W.alloc (.cells #[.float .f64 x.lo.bits, .float .f64 x.hi.bits, .bool false, .bool false] 24)) = .ok (.slice a' (i + 1) c') w') ∧
          Hid (w'.ownsRow w.heap.size 24 4 (.slice a' (i + 1) c') (i + 1) (sCells (l.take i ++ [x]))) ∧ Below w.heap.size w w' := fun W hW => by
        have hown := HO0.kept (grown_of_below hW) (by cases (Value.slice u (l.take i).length cu).ownBlock <;> simp)
        have hbW := hb.trans (hW.mono hz)
        obtain ⟨a', c', w', hr, ho', hb'⟩ := app1 x hbW hown hbW.size (by rw [Hl0.out]; omega)
        rw [Hl0.out] at hr ho'
        exact ⟨a', c', w', hr, hid ho', hb'⟩
      go_wp2_with (first | (go_at_call 19; (with_reducible refine (HSp _).mono ?_); rintro e w1 ⟨rfl, hb1⟩; obtain ⟨hc1, hf1⟩ := bcell hb1; (try simp only [World.heap_drewN, World.cell?_drewN, World.frozen?_drewN] at hc1 hf1); have hz1 := hb1.size; (try simp at hz1); (try have hy1_0 : w.heap.size < w1.heap.size := by omega); (try have hy1_1 : w.heap.size + 1 < w1.heap.size := by omega); (try have hy1_2 : w.heap.size + 2 < w1.heap.size := by omega); (try have hy1_3 : w.heap.size + 3 < w1.heap.size := by omega); (try have hx1_0 : w.heap.size ≤ w1.heap.size := by omega); (try have hx1_1 : w.heap.size + 1 ≤ w1.heap.size := by omega); (try have hx1_2 : w.heap.size + 2 ≤ w1.heap.size := by omega); (try have hu1_wr_0 : wr.heap.size < w1.heap.size := by omega); (try have hu1_wr_1 : wr.heap.size + 1 < w1.heap.size := by omega)) | (obtain ⟨a', c', w', hr, HO', hb'⟩ := one w1 (by (repeat (first | with_reducible exact Below.refl _ _ | ((with_reducible refine Below.alloc1 ?_ ?_ _); (· first | omega | (simp; done) | (simp; omega))) | (with_reducible refine Below.drew ?_) | (with_reducible refine below_drewN' ?_ _) | ((with_reducible refine Below.setCell1 ?_ ?_ _); (· first | omega | (simp; done) | (simp; omega))) | ((with_reducible refine Below.after (by assumption) ?_ ?_); (· first | omega | (simp; done) | (simp; omega)))))); at_builtin; refine Lib.wpList_append_run _ rfl _ _ _ _ rfl _ _ rfl rfl _ _ (hr _) ?_))
      go_roundw
      case rel => exact ⟨i + 1, a', c', by omega, by go_num, by rw [HT.out, List.length_append, Hl0.out]; rfl, hid (by rw [HT.out, List.length_append, Hl0.out]; exact HO'.out), hb'⟩
      case measure => simp [intOf]; omega
    · obtain rfl : i = m := by omega
      have htk : l.take i = l := by rw [← HM.out, List.take_length]
      have hfin : ∀ W, Below wr.heap.size wr W → NormRet w l (.returned (.slice u (l.take i).length cu)) W := fun W h1 => by
        have hown := HO.out
        rw [htk] at hown ⊢
        exact ⟨u, cu, rfl, hown.kept (grown_of_below h1) (by cases (Value.slice u l.length cu).ownBlock <;> simp), hb.trans (h1.mono hz)⟩
      have HFn := hid hfin
      clear hfin
      go_wp2
      go_ret
      exact HFn.out _ (by (repeat (first | with_reducible exact Below.refl _ _ | ((with_reducible refine Below.alloc1 ?_ ?_ _); (· first | omega | (simp; done) | (simp; omega))) | (with_reducible refine Below.drew ?_) | (with_reducible refine below_drewN' ?_ _) | ((with_reducible refine Below.setCell1 ?_ ?_ _); (· first | omega | (simp; done) | (simp; omega))) | ((with_reducible refine Below.after (by assumption) ?_ ?_); (· first | omega | (simp; done) | (simp; omega))))))

theorem sameSp_iff (x y : SpanV) : sameSp x.lo x.hi x.a x.b y.lo y.hi y.a y.b = true ↔ x = y := by
  unfold sameSp
  rw [decide_eq_true_eq]
  constructor
  · rintro ⟨h1, h2, h3, h4⟩
    cases x; cases y
    simp only at h1 h2 h3 h4
    subst h1 h2 h3 h4; rfl
  · rintro rfl; exact ⟨rfl, rfl, rfl, rfl⟩

set_option maxHeartbeats 1000000 in
set_option maxRecDepth 100000 in
theorem refSameS_any (a a' : Option Addr) (c c' n n' : Nat) (xs ys : List SpanV) (v : Bool) (w : World) (hn : xs.length = n) (hn' : ys.length = n') (hx : SAt w a xs) (hy : SAt w a' ys) (hv : v = true ↔ xs = ys) :
    Calls Try.prog 48 #[.slice a n c, .slice a' n' c'] w (Ret (.bool v) w) := by
  by_cases hnn : n = n'
  · subst hnn
    have hb1 : ((n : Int) != (n : Int)) = false := by simp
    obtain ⟨hr, _, hm⟩ := hx
    obtain ⟨hr', _, _⟩ := hy
    unfold maxLen at hm
    rw [hn] at hm
    have HN := hid hn; have HN' := hid hn'; have HV := hid hv
    clear hn hn' hv
    go_enter Try.func48, Try.ntmps48
    go_wp2
    go_loopw [5] (fun iv wr => ∃ k : Nat, k ≤ n ∧ iv = .int .i64 k ∧ Hid (∀ j, j < k → xs[j]? = ys[j]?) ∧ Below w.heap.size w wr) (fun iv _ => n - (intOf iv).toNat)
    case atStart => exact ⟨0, Nat.zero_le _, rfl, hid fun j hj => absurd hj (Nat.not_lt_zero _), Below.refl _ _⟩
    case round =>
      obtain ⟨k, hk, rfl, HR, hbw⟩ := hrel
      have hsz := hbw.size
      by_cases hlt : k < n
      · have hlt' : (k : Int) < (n : Int) := by omega
        have k1 : k < xs.length := by rw [HN.out]; exact hlt
        have k2 : k < ys.length := by rw [HN'.out]; exact hlt
        rcases hr with h0 | ⟨b, o, rfl, hb, hc⟩
        · rw [h0] at k1; simp at k1
        rcases hr' with h0 | ⟨b', o', rfl, hb', hc'⟩
        · rw [h0] at k2; simp at k2
        obtain ⟨c0, c1, c2, c3⟩ := hc k k1
        obtain ⟨e0, e1, e2, e3⟩ := hc' k k2
        have hxs := hid (sp_some k1)
        have hys := hid (sp_some k2)
        have kk := fun j => hbw.cell (p := ⟨b, j, none⟩) hb
        have kk' := fun j => hbw.cell (p := ⟨b', j, none⟩) hb'
        have d0 := (kk _).trans c0; have d1 := (kk _).trans c1; have d2 := (kk _).trans c2; have d3 := (kk _).trans c3
        have f0 := (kk' _).trans e0; have f1 := (kk' _).trans e1; have f2 := (kk' _).trans e2; have f3 := (kk' _).trans e3
        clear c0 c1 c2 c3 e0 e1 e2 e3 kk kk' hc hc' k1 k2
        generalize xs[k]?.getD default = x at *
        generalize ys[k]?.getD default = y at *
        have hbl : b < wr.heap.size := by omega
        have hbl' : b' < wr.heap.size := by omega
        have H := fun W => sameSpan_any x.lo x.hi y.lo y.hi x.a x.b y.a y.b W
        have hs := sameSp_iff x y
        cases hp : sameSp x.lo x.hi x.a x.b y.lo y.hi y.a y.b
        · rw [hp] at H hs
          have Hv : Hid (v = false) := hid (by
            cases v
            · rfl
            · have := HV.out.1 rfl
              rw [this] at hxs
              have := hxs.out.symm.trans hys.out
              cases this
              exact (hs.2 rfl).symm)
          clear hp hs
          go_wp2
          (refine wp_region_ext (by kernel_rfl) (by kernel_rfl) ?_; (repeat (go_big_quiet_step (first | (go_at_call 17; with_reducible exact Calls.ext_of (H _))))); refine wpQuiet_nil ?_; rintro w1 ⟨x1, hx1⟩; have hb1 := x1.b; rw [← hx1] at hb1; clear hx1 x1; obtain ⟨hc1, hf1⟩ := bcell hb1; (try simp only [World.heap_drewN, World.cell?_drewN, World.frozen?_drewN] at hc1 hf1); have hz1 := hb1.size; (try simp at hz1); (try have hy1_0 : w.heap.size < w1.heap.size := by omega); (try have hy1_1 : w.heap.size + 1 < w1.heap.size := by omega); (try have hy1_2 : w.heap.size + 2 < w1.heap.size := by omega); (try have hy1_3 : w.heap.size + 3 < w1.heap.size := by omega); (try have hx1_0 : w.heap.size ≤ w1.heap.size := by omega); (try have hx1_1 : w.heap.size + 1 ≤ w1.heap.size := by omega); (try have hx1_2 : w.heap.size + 2 ≤ w1.heap.size := by omega); (try have hu1_wr_0 : wr.heap.size < w1.heap.size := by omega); (try have hu1_wr_1 : wr.heap.size + 1 < w1.heap.size := by omega))
          go_wp2
          go_ret
          exact ⟨ret_bool (by rw [Hv.out]), by (repeat (first | with_reducible exact Below.refl _ _ | ((with_reducible refine Below.alloc1 ?_ ?_ _); (· first | omega | (simp; done) | (simp; omega))) | (with_reducible refine Below.drew ?_) | (with_reducible refine below_drewN' ?_ _) | ((with_reducible refine Below.setCell1 ?_ ?_ _); (· first | omega | (simp; done) | (simp; omega))) | ((with_reducible refine Below.after (by assumption) ?_ ?_); (· first | omega | (simp; done) | (simp; omega)))))⟩
        · rw [hp] at H hs
          have hxy : x = y := hs.1 rfl
          have HR2 : Hid (∀ j, j < k + 1 → xs[j]? = ys[j]?) := hid fun j hj => by
            by_cases h : j < k
            · exact HR.out j h
            · obtain rfl : j = k := by omega
              rw [hxs.out, hys.out, hxy]
          clear hp hs hxy
          go_wp2
          (refine wp_region_ext (by kernel_rfl) (by kernel_rfl) ?_; (repeat (go_big_quiet_step (first | (go_at_call 17; with_reducible exact Calls.ext_of (H _))))); refine wpQuiet_nil ?_; rintro w1 ⟨x1, hx1⟩; have hb1 := x1.b; rw [← hx1] at hb1; clear hx1 x1; obtain ⟨hc1, hf1⟩ := bcell hb1; (try simp only [World.heap_drewN, World.cell?_drewN, World.frozen?_drewN] at hc1 hf1); have hz1 := hb1.size; (try simp at hz1); (try have hy1_0 : w.heap.size < w1.heap.size := by omega); (try have hy1_1 : w.heap.size + 1 < w1.heap.size := by omega); (try have hy1_2 : w.heap.size + 2 < w1.heap.size := by omega); (try have hy1_3 : w.heap.size + 3 < w1.heap.size := by omega); (try have hx1_0 : w.heap.size ≤ w1.heap.size := by omega); (try have hx1_1 : w.heap.size + 1 ≤ w1.heap.size := by omega); (try have hx1_2 : w.heap.size + 2 ≤ w1.heap.size := by omega); (try have hu1_wr_0 : wr.heap.size < w1.heap.size := by omega); (try have hu1_wr_1 : wr.heap.size + 1 < w1.heap.size := by omega))
          go_wp2
          go_roundw
          case rel => exact ⟨k + 1, by omega, by go_num, HR2, by (repeat (first | with_reducible exact Below.refl _ _ | ((with_reducible refine Below.alloc1 ?_ ?_ _); (· first | omega | (simp; done) | (simp; omega))) | (with_reducible refine Below.drew ?_) | (with_reducible refine below_drewN' ?_ _) | ((with_reducible refine Below.setCell1 ?_ ?_ _); (· first | omega | (simp; done) | (simp; omega))) | ((with_reducible refine Below.after (by assumption) ?_ ?_); (· first | omega | (simp; done) | (simp; omega)))))⟩
          case measure => simp [intOf]; omega
      · obtain rfl : k = n := by omega
        have Hv : Hid (v = true) := hid (HV.out.2 (by
          apply List.ext_getElem?
          intro j
          by_cases hj : j < k
          · exact HR.out j hj
          · rw [List.getElem?_eq_none (by rw [HN.out]; omega), List.getElem?_eq_none (by rw [HN'.out]; omega)]))
        go_wp2
        go_ret
        exact ⟨ret_bool (by rw [Hv.out]), by (repeat (first | with_reducible exact Below.refl _ _ | ((with_reducible refine Below.alloc1 ?_ ?_ _); (· first | omega | (simp; done) | (simp; omega))) | (with_reducible refine Below.drew ?_) | (with_reducible refine below_drewN' ?_ _) | ((with_reducible refine Below.setCell1 ?_ ?_ _); (· first | omega | (simp; done) | (simp; omega))) | ((with_reducible refine Below.after (by assumption) ?_ ?_); (· first | omega | (simp; done) | (simp; omega)))))⟩
  · have hb1 : ((n : Int) != (n' : Int)) = true := by simp; omega
    have Hv : Hid (v = false) := hid (by
      cases v
      · rfl
      · have := hv.1 rfl
        rw [this] at hn; omega)
    clear hv hx hy hn hn'
    go_enter Try.func48, Try.ntmps48
    go_wp2
    go_ret
    exact ⟨ret_bool (by rw [Hv.out]), by (repeat (first | with_reducible exact Below.refl _ _ | ((with_reducible refine Below.alloc1 ?_ ?_ _); (· first | omega | (simp; done) | (simp; omega))) | (with_reducible refine Below.drew ?_) | (with_reducible refine below_drewN' ?_ _) | ((with_reducible refine Below.setCell1 ?_ ?_ _); (· first | omega | (simp; done) | (simp; omega))) | ((with_reducible refine Below.after (by assumption) ?_ ?_); (· first | omega | (simp; done) | (simp; omega)))))⟩
end Go.Proofs.Ytibimhjbhincnaa.N
