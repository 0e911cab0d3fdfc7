/- The document's table of layer 10: All. -/
import Derived.Test.YtnlaepogkepnhaaQ10d
import Derived.Test.YtnlaepogkepnhaaR6
namespace Go.Proofs.Ytnlaepogkepnhaa.Q
set_option linter.unusedVariables false
open Go.RowKit Fl

/-- How many have a lesser key. -/
def rank (ms : List ItV) (x : ItV) : Nat := (ms.filter fun y => decide (codeR y.k.rg < codeR x.k.rg)).length
def ofRank (ms : List ItV) (i : Nat) (l : List ItV) : List ItV := l.filter fun x => decide (rank ms x = i)
def allR (ms : List ItV) : Nat → List ItV
  | 0 => []
  | i + 1 => allR ms i ++ ofRank ms i ms
theorem rank_snoc (x : ItV) {ms : List ItV} {j : Nat} {y : ItV} (hy : ms[j]? = some y) : ((ms.take (j + 1)).filter fun y => decide (codeR y.k.rg < codeR x.k.rg)).length = ((ms.take j).filter fun y => decide (codeR y.k.rg < codeR x.k.rg)).length + (if decide (codeR y.k.rg < codeR x.k.rg) = true then 1 else 0) := by
  rw [List.take_add_one, hy, List.filter_append, List.length_append]
  congr 1
  by_cases h : codeR y.k.rg < codeR x.k.rg <;> simp [h]
theorem ofRank_snoc (ms : List ItV) (i : Nat) {l : List ItV} {k : Nat} {x : ItV} (hx : l[k]? = some x) : ofRank ms i (l.take (k + 1)) = ofRank ms i (l.take k) ++ (if decide (rank ms x = i) = true then [x] else []) := by
  unfold ofRank
  rw [List.take_add_one, hx, List.filter_append]
  congr 1
  by_cases h : rank ms x = i <;> simp [h]
theorem filter_add {p q r : ItV → Bool} (h : ∀ x, r x = (p x || q x)) (hd : ∀ x, (p x && q x) = false) (l : List ItV) : (l.filter p).length + (l.filter q).length = (l.filter r).length := by
  induction l with
  | nil => rfl
  | cons x l ih =>
    have h1 := h x
    have h2 := hd x
    rw [List.filter_cons, List.filter_cons, List.filter_cons]
    cases hp : p x <;> cases hq : q x <;> rw [hp, hq] at h1 h2 <;> rw [h1]
    · exact ih
    · simp at ih ⊢; omega
    · simp at ih ⊢; omega
    · simp at h2
theorem allR_lt (ms : List ItV) : ∀ i, (allR ms i).length = (ms.filter fun x => decide (rank ms x < i)).length
  | 0 => by
    rw [List.filter_eq_nil_iff.2 (by intro x _; simp)]
    rfl
  | i + 1 => by
    show (allR ms i ++ ofRank ms i ms).length = _
    rw [List.length_append, allR_lt ms i]
    refine filter_add (fun x => ?_) (fun x => ?_) ms
    · rw [Bool.eq_iff_iff]; simp; omega
    · simp; omega
theorem allR_le (ms : List ItV) (i k : Nat) : (allR ms i ++ ofRank ms i (ms.take k)).length ≤ ms.length := by
  have h1 := allR_lt ms (i + 1)
  have h2 : (ofRank ms i (ms.take k)).length ≤ (ofRank ms i ms).length := List.Sublist.length_le (List.Sublist.filter _ (List.take_sublist _ _))
  have h3 : (ms.filter fun x => decide (rank ms x < i + 1)).length ≤ ms.length := List.length_filter_le _ _
  simp only [allR, List.length_append] at h1 ⊢
  omega
theorem allR_le' (ms : List ItV) (i : Nat) : (allR ms i).length ≤ ms.length := by rw [allR_lt]; exact List.length_filter_le _ _
theorem rank_le (ms : List ItV) (x : ItV) (j : Nat) : ((ms.take j).filter fun y => decide (codeR y.k.rg < codeR x.k.rg)).length ≤ ms.length := Nat.le_trans (List.length_filter_le _ _) (by rw [List.length_take]; omega)

def MAllRet (w : World) (ms : List ItV) (e : Ending) (w' : World) : Prop :=
  ∃ a c, e = .returned (.slice a ms.length c) ∧ w'.ownsRow w.heap.size 90 3 (.slice a ms.length c) ms.length (mCells ms) ∧ Below w.heap.size w w'

theorem cmp_lt (x y : RK) (b : Bool) (h : decide (codeR x.rg < codeR y.rg) = b) : ∃ v, (∀ w : World, Calls Try.prog 76 #[.agg #[.int .u64 (kcode x.lo), .int .u64 (kcode x.hi)], .agg #[.int .u64 (kcode y.lo), .int .u64 (kcode y.hi)]] w (Ret (.int .i64 v) w)) ∧ decide (v < 0) = b := by
  refine ⟨_, fun w => refCmp_ss x.lo x.hi y.lo y.hi (hid x.le) (hid y.le) w, ?_⟩
  rw [← h, cmpR_code]
  show decide (cmpI (codeR x.rg) (codeR y.rg) < 0) = _
  unfold cmpI
  by_cases h1 : codeR x.rg < codeR y.rg
  · rw [if_pos h1]; simp [h1]
  · rw [if_neg h1]
    by_cases h2 : codeR y.rg < codeR x.rg
    · rw [if_pos h2]; simp [h1]
    · rw [if_neg h2]; simp [h1]

set_option maxRecDepth 100000 in
theorem refAll_any (most : Int) (a : Option Addr) (c : Nat) (ms : List ItV) (w : World) (hm : MAt w a ms) :
    Calls Try.prog 45 #[.agg #[.int .i64 most, .slice a ms.length c]] w (MAllRet w (allR ms ms.length)) := by
  obtain ⟨n, hn⟩ : ∃ n, ms.length = n := ⟨_, rfl⟩
  have HM := hid hm
  have hl := hm.len
  have hA := fun i k => allR_le ms i k
  have hA' := fun i => allR_le' ms i
  have hR := fun x j => rank_le ms x j
  rw [hn] at hl hA hA' hR ⊢
  have HN := hid hn
  have HT : Hid (ms.take n = ms) := hid (by rw [← hn]; exact List.take_length)
  have HLA := hid hA; have HLA' := hid hA'; have HLR := hid hR
  clear hm hn hA hA' hR
  obtain ⟨W0, hW0⟩ : ∃ W0, W0 = w.alloc (.cells #[.int .i64 most, .slice a n c] 79) := ⟨_, rfl⟩
  have hB0 : Below w.heap.size w W0 := by rw [hW0]; (repeat (first | with_reducible exact Below.refl _ _ | ((with_reducible refine Below.alloc1 ?_ ?_ _); (· first | omega | (simp; done) | (simp; omega))) | (with_reducible refine Below.drew ?_) | (with_reducible refine below_drewN' ?_ _) | ((with_reducible refine Below.setCell1 ?_ ?_ _); (· first | omega | (simp; done) | (simp; omega))) | ((with_reducible refine Below.after (by assumption) ?_ ?_); (· first | omega | (simp; done) | (simp; omega)))))
  have hz0 : W0.heap.size = w.heap.size + 1 := by rw [hW0]; simp
  have s1 : W0.cell? ⟨w.heap.size, 1, none⟩ = some (.slice a n c) := by rw [hW0]; simp [go_sem]
  have h00 : Below W0.heap.size W0 (W0.alloc (.cells #[] 90)) := by (repeat (first | with_reducible exact Below.refl _ _ | ((with_reducible refine Below.alloc1 ?_ ?_ _); (· first | omega | (simp; done) | (simp; omega))) | (with_reducible refine Below.drew ?_) | (with_reducible refine below_drewN' ?_ _) | ((with_reducible refine Below.setCell1 ?_ ?_ _); (· first | omega | (simp; done) | (simp; omega))) | ((with_reducible refine Below.after (by assumption) ?_ ?_); (· first | omega | (simp; done) | (simp; omega)))))
  have hown0 : (W0.alloc (.cells #[] 90)).ownsRow W0.heap.size 90 3 (.slice (some ⟨W0.heap.size, 0, none⟩) 0 0) 0 [] :=
    ⟨rfl, .inr ⟨W0.heap.size, 0, #[], rfl, Nat.le_refl _, heap_alloc_new W0 _, Nat.le_refl _, by unfold maxLen; omega, rfl, rfl⟩⟩
  have H0 := hid hown0
  have hy0 : w.heap.size < W0.heap.size := by omega
  clear hown0
  have HC : Hid (∀ wr, Below W0.heap.size W0 wr → ∀ i, i < n → ∃ g, a = some ⟨g, 0, none⟩ ∧ g < wr.heap.size ∧ wr.cell? ⟨g, i * 3, none⟩ = some (.int .u64 (kcode (ms[i]?.getD default).k.lo)) ∧ wr.cell? ⟨g, i * 3 + 1, none⟩ = some (.int .u64 (kcode (ms[i]?.getD default).k.hi)) ∧ wr.cell? ⟨g, i * 3 + 2, none⟩ = some (.int .i64 (ms[i]?.getD default).n)) := hid fun wr hb i hi => by
    have hil : i < ms.length := by rw [HN.out]; exact hi
    obtain ⟨g, e, hg, hcs⟩ := HM.out.row (by omega)
    obtain ⟨d0, d1, d2⟩ := hcs i hil
    have hg0 : g < W0.heap.size := by omega
    have := hb.size
    exact ⟨g, e, by omega, (hb.cell (p := ⟨g, _, none⟩) hg0).trans ((hB0.cell (p := ⟨g, _, none⟩) hg).trans d0), (hb.cell (p := ⟨g, _, none⟩) hg0).trans ((hB0.cell (p := ⟨g, _, none⟩) hg).trans d1), (hb.cell (p := ⟨g, _, none⟩) hg0).trans ((hB0.cell (p := ⟨g, _, none⟩) hg).trans d2)⟩
  go_enter Try.func45, Try.ntmps45
  go_wp2
  rw [← hW0]
  clear hW0
  go_loopw [4, 3] (fun iv uv wr => ∃ (i : Nat) (u : Option Addr) (cu : Nat), i ≤ n ∧ iv = .int .i64 i ∧ uv = .slice u (allR ms i).length cu ∧ Hid (wr.ownsRow W0.heap.size 90 3 (.slice u (allR ms i).length cu) (allR ms i).length (mCells (allR ms i))) ∧ Below W0.heap.size W0 wr) (fun iv _ _ => n - (intOf iv).toNat)
  case atStart => exact ⟨0, some ⟨W0.heap.size, 0, none⟩, 0, Nat.zero_le _, rfl, by rw [hz0]; rfl, H0, h00⟩
  case round =>
    obtain ⟨i, u, cu, hin, rfl, rfl, HO, hb⟩ := hrel
    have hz := hb.size
    have e1 := (hb.cell (p := ⟨w.heap.size, 1, none⟩) hy0).trans s1
    by_cases hlt : i < n
    · have hlt' : (i : Int) < (n : Int) := by omega
      go_wp2
      go_loopw [5, 3] (fun kv uv w2 => ∃ (k : Nat) (u : Option Addr) (cu : Nat), k ≤ n ∧ kv = .int .i64 k ∧ uv = .slice u (allR ms i ++ ofRank ms i (ms.take k)).length cu ∧ Hid (w2.ownsRow W0.heap.size 90 3 (.slice u (allR ms i ++ ofRank ms i (ms.take k)).length cu) (allR ms i ++ ofRank ms i (ms.take k)).length (mCells (allR ms i ++ ofRank ms i (ms.take k)))) ∧ Below W0.heap.size W0 w2) (fun kv _ _ => n - (intOf kv).toNat)
      case atStart => exact ⟨0, u, cu, Nat.zero_le _, rfl, by simp [ofRank], hid (by simp only [List.take_zero, ofRank, List.filter_nil, List.append_nil]; exact HO.out), hb⟩
      case round =>
        obtain ⟨k, u, cu, hkn, rfl, rfl, HO2, hb2⟩ := hrel
        have e2 := (hb2.cell (p := ⟨w.heap.size, 1, none⟩) hy0).trans s1
        have hz2 := hb2.size
        by_cases hlk : k < n
        · have hlk' : (k : Int) < (n : Int) := by omega
          have hkl : k < ms.length := by rw [HN.out]; exact hlk
          have hx := hid (it_some hkl)
          have hxk : Hid (∃ x, ms[k]? = some x ∧ x = ms[k]?.getD default) := hid ⟨_, hx.out, rfl⟩
          obtain ⟨x, hxx⟩ : ∃ x, ms[k]?.getD default = x := ⟨_, rfl⟩
          rw [hxx] at hx
          have HX := hid hxx
          clear hxx hkl hxk
          go_wp2
          go_loopw [7, 6] (fun jv av w3 => ∃ j : Nat, j ≤ n ∧ jv = .int .i64 j ∧ av = .int .i64 (((ms.take j).filter fun y => decide (codeR y.k.rg < codeR x.k.rg)).length : Nat) ∧ Below wr.heap.size wr w3) (fun jv _ _ => n - (intOf jv).toNat)
          case atStart => exact ⟨0, Nat.zero_le _, rfl, rfl, Below.refl _ _⟩
          case round =>
            obtain ⟨j, hjn, rfl, rfl, hb3⟩ := hrel
            have hb4 := hb2.trans (hb3.mono hz2)
            have hz4 := hb4.size
            have hz3 := hb3.size
            have e3 := (hb4.cell (p := ⟨w.heap.size, 1, none⟩) hy0).trans s1
            have hy4 : w.heap.size < wr.heap.size := by omega
            obtain ⟨g, rfl, hgw, x0, x1, x2⟩ := HC.out wr hb4 k hlk
            rw [HX.out] at x0 x1 x2
            by_cases hlj : j < n
            · have hlj' : (j : Int) < (n : Int) := by omega
              have hjl : j < ms.length := by rw [HN.out]; exact hlj
              obtain ⟨g', e', _, d0, d1, d2⟩ := HC.out wr hb4 j hlj
              cases e'
              have hsn := rank_snoc x (it_some hjl)
              have hle := HLR.out x j
              clear hjl
              generalize ms[j]?.getD default = y at *
              obtain ⟨t, ht⟩ : ∃ t, ((ms.take j).filter fun y => decide (codeR y.k.rg < codeR x.k.rg)).length = t := ⟨_, rfl⟩
              rw [ht] at hsn hle ⊢
              clear ht
              cases hq : decide (codeR y.k.rg < codeR x.k.rg)
              all_goals rw [hq] at hsn
              · have HQ := hid hq
                obtain ⟨v, hv, hv2⟩ := cmp_lt y.k x.k false hq
                simp only [Bool.false_eq_true, if_false, Nat.add_zero] at hsn
                have HS := hid hsn
                clear hsn hq hb4
                go_wp2
                (refine wp_region_ext (by kernel_rfl) (by kernel_rfl) ?_; (repeat (go_big_quiet_step (first | (go_at_call 76; with_reducible exact Calls.ext_of (hv _))))); refine wpQuiet_nil ?_; rintro w9 ⟨x9, hx9⟩; have hb9 := x9.b; rw [← hx9] at hb9; clear hx9 x9; obtain ⟨hc9, hf9⟩ := bcell hb9; (try simp only [World.heap_drewN, World.cell?_drewN, World.frozen?_drewN] at hc9 hf9); have hz9 := hb9.size; (try simp at hz9); (try have hy9_0 : w.heap.size < w9.heap.size := by omega); (try have hy9_1 : w.heap.size + 1 < w9.heap.size := by omega); (try have hy9_2 : w.heap.size + 2 < w9.heap.size := by omega); (try have hy9_3 : w.heap.size + 3 < w9.heap.size := by omega); (try have hx9_0 : w.heap.size ≤ w9.heap.size := by omega); (try have hx9_1 : w.heap.size + 1 ≤ w9.heap.size := by omega); (try have hx9_2 : w.heap.size + 2 ≤ w9.heap.size := by omega); (try have hu9_wr_0 : wr.heap.size < w9.heap.size := by omega); (try have hu9_wr_1 : wr.heap.size + 1 < w9.heap.size := by omega))
                go_wp2
                go_roundw
                case rel => exact ⟨j + 1, by omega, by go_num, by first | (rw [HS.out]; done) | (rw [HS.out]; go_num), by (repeat (first | with_reducible exact Below.refl _ _ | ((with_reducible refine Below.alloc1 ?_ ?_ _); (· first | omega | (simp; done) | (simp; omega))) | (with_reducible refine Below.drew ?_) | (with_reducible refine below_drewN' ?_ _) | ((with_reducible refine Below.setCell1 ?_ ?_ _); (· first | omega | (simp; done) | (simp; omega))) | ((with_reducible refine Below.after (by assumption) ?_ ?_); (· first | omega | (simp; done) | (simp; omega)))))⟩
                case measure => simp [intOf]; omega
              · have HQ := hid hq
                obtain ⟨v, hv, hv2⟩ := cmp_lt y.k x.k true hq
                simp only [if_true] at hsn
                have HS := hid hsn
                clear hsn hq hb4
                go_wp2
                (refine wp_region_ext (by kernel_rfl) (by kernel_rfl) ?_; (repeat (go_big_quiet_step (first | (go_at_call 76; with_reducible exact Calls.ext_of (hv _))))); refine wpQuiet_nil ?_; rintro w9 ⟨x9, hx9⟩; have hb9 := x9.b; rw [← hx9] at hb9; clear hx9 x9; obtain ⟨hc9, hf9⟩ := bcell hb9; (try simp only [World.heap_drewN, World.cell?_drewN, World.frozen?_drewN] at hc9 hf9); have hz9 := hb9.size; (try simp at hz9); (try have hy9_0 : w.heap.size < w9.heap.size := by omega); (try have hy9_1 : w.heap.size + 1 < w9.heap.size := by omega); (try have hy9_2 : w.heap.size + 2 < w9.heap.size := by omega); (try have hy9_3 : w.heap.size + 3 < w9.heap.size := by omega); (try have hx9_0 : w.heap.size ≤ w9.heap.size := by omega); (try have hx9_1 : w.heap.size + 1 ≤ w9.heap.size := by omega); (try have hx9_2 : w.heap.size + 2 ≤ w9.heap.size := by omega); (try have hu9_wr_0 : wr.heap.size < w9.heap.size := by omega); (try have hu9_wr_1 : wr.heap.size + 1 < w9.heap.size := by omega))
                go_wp2
                go_roundw
                case rel => exact ⟨j + 1, by omega, by go_num, by first | (rw [HS.out]; done) | (rw [HS.out]; go_num), by (repeat (first | with_reducible exact Below.refl _ _ | ((with_reducible refine Below.alloc1 ?_ ?_ _); (· first | omega | (simp; done) | (simp; omega))) | (with_reducible refine Below.drew ?_) | (with_reducible refine below_drewN' ?_ _) | ((with_reducible refine Below.setCell1 ?_ ?_ _); (· first | omega | (simp; done) | (simp; omega))) | ((with_reducible refine Below.after (by assumption) ?_ ?_); (· first | omega | (simp; done) | (simp; omega)))))⟩
                case measure => simp [intOf]; omega
            · obtain rfl : j = n := by omega
              have hro := ofRank_snoc ms i hx.out
              have hle := HLA.out i k
              have hcnt : ((ms.take j).filter fun y => decide (codeR y.k.rg < codeR x.k.rg)).length = rank ms x := by rw [HT.out]; rfl
              rw [hcnt]
              clear hcnt
              have hown := HO2.out.kept (grown_of_below hb3) (by cases (Value.slice u (allR ms i ++ ofRank ms i (ms.take k)).length cu).ownBlock <;> simp)
              by_cases hq : rank ms x = i
              · rw [if_pos (by simp [hq])] at hro
                have HK : Hid (allR ms i ++ ofRank ms i (ms.take (k + 1)) = (allR ms i ++ ofRank ms i (ms.take k)) ++ [x]) := hid (by rw [hro, List.append_assoc])
                rw [hq]
                obtain ⟨a', c', w', hr, ho', hb'⟩ := app1 x hb4 hown hb4.size (by omega)
                have HO' := hid ho'
                clear ho' hown hro hq
                go_wp2_with (at_builtin; refine Lib.wpList_append_run _ rfl _ _ _ _ rfl _ _ rfl rfl _ _ (hr _) ?_)
                go_roundw
                case rel => exact ⟨k + 1, a', c', by omega, by go_num, by rw [HK.out]; simp [Nat.add_assoc], hid (by rw [HK.out, List.length_append]; exact HO'.out), hb'⟩
                case measure => simp [intOf]; omega
              · rw [if_neg (by simp [hq]), List.append_nil] at hro
                have HR := hid hro
                have HW := hid hown
                have hne : (((rank ms x : Nat) : Int) == (i : Int)) = false := by simp; omega
                clear hown hro hq
                generalize rank ms x = t at *
                go_wp2
                go_roundw
                case rel => exact ⟨k + 1, u, cu, by omega, by go_num, by rw [HR.out], hid (by rw [HR.out]; exact HW.out), hb4⟩
                case measure => simp [intOf]; omega
        · obtain rfl : k = n := by omega
          go_wp2
          go_roundw
          case rel => exact ⟨i + 1, u, cu, by omega, by go_num, by rw [HT.out]; rfl, hid (by have := HO2.out; rw [HT.out] at this; exact this), hb2⟩
          case measure => simp [intOf]; omega
    · obtain rfl : i = n := by omega
      have hfin : ∀ W, Below wr.heap.size wr W → MAllRet w (allR ms i) (.returned (.slice u (allR ms i).length cu)) W := fun W h1 =>
        ⟨u, cu, rfl, own_le (HO.out.kept (grown_of_below h1) (by cases (Value.slice u (allR ms i).length cu).ownBlock <;> simp)) (by omega), hB0.trans ((hb.trans (h1.mono hz)).mono (by omega))⟩
      have HFn := hid hfin
      clear hfin
      go_wp2
      go_ret
      exact HFn.out _ (by (repeat (first | with_reducible exact Below.refl _ _ | ((with_reducible refine Below.alloc1 ?_ ?_ _); (· first | omega | (simp; done) | (simp; omega))) | (with_reducible refine Below.drew ?_) | (with_reducible refine below_drewN' ?_ _) | ((with_reducible refine Below.setCell1 ?_ ?_ _); (· first | omega | (simp; done) | (simp; omega))) | ((with_reducible refine Below.after (by assumption) ?_ ?_); (· first | omega | (simp; done) | (simp; omega))))))
end Go.Proofs.Ytnlaepogkepnhaa.Q
