/- The walks of flo.Sort, and of rising. -/
import Derived.Test.YtekmadgacepdfaaGreatKB
namespace Go.Proofs.YtekmadgacepdfaaGreat.K
set_option linter.unusedVariables false
open Go.RowKit Fl

theorem bits_cb (xs : List Nat) : bits (xs.map cb) = xs.map cbits := by
 unfold bits
 rw [List.map_map]; rfl
theorem fsort_len (xs : List Nat) : (fsort xs).length ≤ xs.length := by
 have := dd_len (sortC (xs.map cb))
 rw [sortC_len, List.length_map] at this
 exact this
def FRet (w : World) (l : List CB) (e : Ending) (w' : World) : Prop :=
 ∃ a c, e = .returned (.slice a l.length c) ∧ w'.ownsRow w.heap.size 64 1 (.slice a l.length c) l.length (fCells (bits l)) ∧ Below w.heap.size w w'
theorem FRet.fat {w w' : World} {l : List CB} {a : Option Addr} {c : Nat} (h : w'.ownsRow w.heap.size 64 1 (.slice a l.length c) l.length (fCells (bits l))) (hl : l.length ≤ 17592186044416) : FAt w' a (bits l) :=
 own_fat (bits_len l) h hl (bits_lt l)

theorem compact_nil (w : World) :
  Calls Tryz.prog 114 #[.slice none 0 0, .func (.func 115) #[] #[]] w fun e w' => e = .returned (.slice none 0 0) ∧ w = w' := by
 go_enter Tryz.func114, Tryz.ntmps114
 go_wp2
 go_ret
 exact ⟨rfl, rfl⟩

set_option maxHeartbeats 1000000 in
set_option maxRecDepth 100000 in
theorem fsort_any (a : Option Addr) (c n : Nat) (xs : List Nat) (w : World) (hn : xs.length = n) (h : FAt w a xs) (hl : n ≤ 17592186044414) :
  Calls Tryz.prog 68 #[.slice a n c] w (FRet w (fsort xs)) := by
 have HN := hid hn; have HS := hid h
 have H0 : Hid (w.ownsRow w.heap.size 64 1 (.slice none 0 0) 0 (fCells ((xs.take 0).map cbits))) := hid ⟨rfl, .inl ⟨rfl, rfl⟩⟩
 clear hn h
 go_enter Tryz.func68, Tryz.ntmps68
 go_wp2
 go_loopw [8, 3] (fun iv uv wr => ∃ (i : Nat) (u : Option Addr) (cu : Nat), i ≤ n ∧ iv = .int .i64 i ∧ uv = .slice u i cu ∧ Hid (wr.ownsRow w.heap.size 64 1 (.slice u i cu) i (fCells ((xs.take i).map cbits))) ∧ Below w.heap.size w wr) (fun iv _ _ => n - (intOf iv).toNat)
 case atStart => exact ⟨0, none, 0, Nat.zero_le _, rfl, rfl, H0, Below.refl _ _⟩
 case round =>
  obtain ⟨i, u, cu, hin, rfl, rfl, HO, hb⟩ := hrel
  have hz := hb.size
  by_cases hlt : i < n
  ·have hlt' : (i : Int) < (n : Int) := by omega
   have hil : i < xs.length := by rw [HN.out]; exact hlt
   have hx := fl_some hil
   have l1 := HS.out.lt i hil
   rcases HS.out.row with h0 | ⟨g, o, rfl, hg, hcs⟩
   ·rw [h0] at hil; simp at hil
   have d0 := (hb.cell (p := ⟨g, _, none⟩) hg).trans (hcs i hil)
   have HT : Hid ((xs.take (i + 1)).map cbits = (xs.take i).map cbits ++ [cbits (xs[i]?.getD 0)]) := hid (by rw [List.take_add_one, hx, List.map_append]; rfl)
   have hrl : ((xs.take i).map cbits).length = i := by rw [List.length_map, List.length_take, HN.out]; omega
   generalize xs[i]?.getD 0 = x at *
   obtain ⟨a', c', w', hr, ho', hb'⟩ := appF (cbits x) hrl HO.out hz (by omega)
   have HO' := hid ho'
   have Hb2 := hid (hb.trans hb')
   clear ho' hrl hx hcs hil
   go_wp2_with (first | (go_at_call 111; (with_reducible refine (floCanon_any x l1 _).mono ?_); rintro e w' ⟨rfl, rfl⟩) | (at_builtin; refine Lib.wpList_append_run _ rfl _ _ _ _ rfl _ _ rfl rfl _ _ (hr _) ?_))
   go_roundw
   case rel => exact ⟨i + 1, a', c', by omega, by go_num, rfl, hid (by rw [HT.out]; exact HO'.out), Hb2.out⟩
   case measure => simp [intOf]; omega
  ·obtain rfl : i = n := by omega
   have hown := HO.out
   rw [show xs.take i = xs by rw [← HN.out, List.take_length], ← bits_cb] at hown
   have hlm : (xs.map cb).length = i := by rw [List.length_map]; exact HN.out
   have H := sort_floats wr w.heap.size u cu i (xs.map cb) hlm hown (by omega)
   go_wp2_with (go_at_call 112; refine H.mono ?_; rintro e w1 ⟨rfl, hown1, hg1⟩)
   clear H
   have hb1 : Below w.heap.size w w1 := hb.grown hg1 hz (fun k hk => (hown.lt k hk).1)
   have hz1 := hb1.size
   have hsl : (sortC (xs.map cb)).length = i := by rw [sortC_len]; exact hlm
   have hfs : dd (sortC (xs.map cb)) = fsort xs := rfl
   rcases hown1.2 with ⟨q1, q2⟩ | ⟨g, cap, cur, q1, hbase, hbk, hnc, hcm, hcs, htake⟩
   ·cases q1
    have hnil : fsort xs = [] := by
     have := fsort_len xs
     rw [HN.out] at this
     exact List.eq_nil_of_length_eq_zero (by omega)
    have Hfin : Hid (FRet w (fsort xs) (.returned (.slice none 0 0)) w1) := hid (by rw [hnil]; exact ⟨none, 0, rfl, ⟨rfl, .inl ⟨rfl, rfl⟩⟩, hb1⟩)
    clear hown1 hown hsl hfs hnil hlm
    go_wp2_with fail
    refine (compact_nil w1).mono ?_
    rintro e w2 ⟨rfl, rfl⟩
    go_wp2_with fail
    go_ret
    exact Hfin.out
   ·cases q1
    rw [Nat.mul_one] at htake hcs
    have HC := compact_any g cu i (sortC (xs.map cb)) cur w1 hsl hbk hnc hcm hcs htake
    have hfl := fsort_len xs
    rw [HN.out] at hfl
    clear hown hsl hlm hown1
    go_wp2_with fail
    refine HC.mono ?_
    rintro e w2 ⟨h1, hg2, cur', r1, r2, r3⟩
    rw [hfs] at h1 r3
    subst h1
    have Hfin : Hid (FRet w (fsort xs) (.returned (.slice (some ⟨g, 0, none⟩) (fsort xs).length cu)) w2) := hid
     ⟨_, _, rfl, ⟨by rw [fCells_len, bits_len, Nat.mul_one], .inr ⟨g, cu, cur', rfl, hbase, r1, by omega, hcm, by rw [r2, hcs]; omega, by rw [Nat.mul_one]; exact r3⟩⟩, hb1.grown hg2 hz1 (fun k hk => by cases hk; exact hbase)⟩
    clear HC r1 r2 r3 hg2 hbk htake
    go_wp2_with fail
    go_ret
    exact Hfin.out

theorem eqB_any (x y : Nat) (b : Bool) (hb : decide (x = y) = b) (w : World) :
  Calls Tryz.prog 139 #[.float .f64 x, .float .f64 y] w (Ret (.bool b) w) := by
 have h2 : ((x : Int) == (y : Int)) = b := by rw [← hb, Bool.eq_iff_iff]; simp; omega
 clear hb
 go_enter Tryz.func139, Tryz.ntmps139
 go_wp2_with fail
 go_ret
 exact ⟨rfl, by (repeat (first | with_reducible exact Below.refl _ _ | ((with_reducible refine Below.alloc1 ?_ ?_ _); (· first | omega | (simp; done) | (simp; omega))) | (with_reducible refine Below.drew ?_) | (with_reducible refine below_drewN' ?_ _) | ((with_reducible refine Below.setCell1 ?_ ?_ _); (· first | omega | (simp; done) | (simp; omega))) | ((with_reducible refine Below.after (by assumption) ?_ ?_); (· first | omega | (simp; done) | (simp; omega)))))⟩

set_option maxHeartbeats 1000000 in
set_option maxRecDepth 100000 in
theorem equalF_any (a a' : Option Addr) (c c' n n' : Nat) (xs ys : List Nat) (v : Bool) (w : World) (hn : xs.length = n) (hn' : ys.length = n') (hx : FAt w a xs) (hy : FAt w a' ys) (hv : decide (xs = ys) = v) :
  Calls Tryz.prog 138 #[.slice a n c, .slice a' n' c', .func (.func 139) #[] #[]] w (Ret (.bool v) w) := by
 by_cases hnn : n = n'
 ·subst hnn
  have hb1 : ((n : Int) != (n : Int)) = false := by simp
  obtain ⟨hr, _, hm⟩ := hx
  obtain ⟨hr', _, _⟩ := hy
  unfold maxLen at hm
  rw [hn] at hm
  have HN := hid hn; have HN' := hid hn'; have HV := hid hv
  clear hn hn' hv
  go_enter Tryz.func138, Tryz.ntmps138
  go_wp2
  go_loopw [17] (fun iv wr => ∃ k : Nat, k ≤ n ∧ iv = .int .i64 k ∧ Hid (∀ j, j < k → xs[j]? = ys[j]?) ∧ Below w.heap.size w wr) (fun iv _ => n - (intOf iv).toNat)
  case atStart => exact ⟨0, Nat.zero_le _, rfl, hid fun j hj => absurd hj (Nat.not_lt_zero _), Below.refl _ _⟩
  case round =>
   obtain ⟨k, hk, rfl, HR, hbw⟩ := hrel
   have hsz := hbw.size
   by_cases hlt : k < n
   ·have hlt' : (k : Int) < (n : Int) := by omega
    have k1 : k < xs.length := by rw [HN.out]; exact hlt
    have k2 : k < ys.length := by rw [HN'.out]; exact hlt
    rcases hr with h0 | ⟨b, o, rfl, hb, hc⟩
    ·rw [h0] at k1; simp at k1
    rcases hr' with h0 | ⟨b', o', rfl, hb', hc'⟩
    ·rw [h0] at k2; simp at k2
    have d0 := (hbw.cell (p := ⟨b, _, none⟩) hb).trans (hc k k1)
    have e0 := (hbw.cell (p := ⟨b', _, none⟩) hb').trans (hc' k k2)
    have hxs := hid (fl_some k1)
    have hys := hid (fl_some k2)
    clear hc hc' k1 k2
    generalize xs[k]?.getD 0 = x at *
    generalize ys[k]?.getD 0 = y at *
    cases hp : decide (x = y)
    ·have H := fun W => eqB_any x y false hp W
     have Hv : Hid (v = false) := hid (by
      rw [← HV.out, decide_eq_false_iff_not]
      intro h
      have h1 := hxs.out
      rw [h, hys.out] at h1
      exact (of_decide_eq_false hp) (Option.some.inj h1).symm)
     clear hp
     go_wp2_with (go_at_call 139; (with_reducible refine (H _).mono ?_); rintro e w1 ⟨rfl, hb1⟩; obtain ⟨hc1, hf1⟩ := bcell hb1; (try simp only [World.heap_drewN, World.cell?_drewN, World.frozen?_drewN] at hc1 hf1); have hz1 := hb1.size; (try simp at hz1); (try have hy1_0 : w.heap.size < w1.heap.size := by omega); (try have hy1_1 : w.heap.size + 1 < w1.heap.size := by omega); (try have hy1_2 : w.heap.size + 2 < w1.heap.size := by omega); (try have hy1_3 : w.heap.size + 3 < w1.heap.size := by omega); (try have hx1_0 : w.heap.size ≤ w1.heap.size := by omega); (try have hx1_1 : w.heap.size + 1 ≤ w1.heap.size := by omega); (try have hx1_2 : w.heap.size + 2 ≤ w1.heap.size := by omega); (try have hu1_wr_0 : wr.heap.size < w1.heap.size := by omega); (try have hu1_wr_1 : wr.heap.size + 1 < w1.heap.size := by omega))
     go_ret
     exact ⟨ret_bool (by rw [Hv.out]), by (repeat (first | with_reducible exact Below.refl _ _ | ((with_reducible refine Below.alloc1 ?_ ?_ _); (· first | omega | (simp; done) | (simp; omega))) | (with_reducible refine Below.drew ?_) | (with_reducible refine below_drewN' ?_ _) | ((with_reducible refine Below.setCell1 ?_ ?_ _); (· first | omega | (simp; done) | (simp; omega))) | ((with_reducible refine Below.after (by assumption) ?_ ?_); (· first | omega | (simp; done) | (simp; omega)))))⟩
    ·have hxy : x = y := of_decide_eq_true hp
     subst hxy
     have H := fun W => eqB_any x x true hp W
     have HR2 : Hid (∀ j, j < k + 1 → xs[j]? = ys[j]?) := hid fun j hj => by
      by_cases h : j < k
      ·exact HR.out j h
      ·obtain rfl : j = k := by omega
       rw [hxs.out, hys.out]
     clear hp
     go_wp2_with (go_at_call 139; (with_reducible refine (H _).mono ?_); rintro e w1 ⟨rfl, hb1⟩; obtain ⟨hc1, hf1⟩ := bcell hb1; (try simp only [World.heap_drewN, World.cell?_drewN, World.frozen?_drewN] at hc1 hf1); have hz1 := hb1.size; (try simp at hz1); (try have hy1_0 : w.heap.size < w1.heap.size := by omega); (try have hy1_1 : w.heap.size + 1 < w1.heap.size := by omega); (try have hy1_2 : w.heap.size + 2 < w1.heap.size := by omega); (try have hy1_3 : w.heap.size + 3 < w1.heap.size := by omega); (try have hx1_0 : w.heap.size ≤ w1.heap.size := by omega); (try have hx1_1 : w.heap.size + 1 ≤ w1.heap.size := by omega); (try have hx1_2 : w.heap.size + 2 ≤ w1.heap.size := by omega); (try have hu1_wr_0 : wr.heap.size < w1.heap.size := by omega); (try have hu1_wr_1 : wr.heap.size + 1 < w1.heap.size := by omega))
     go_roundw
     case rel => exact ⟨k + 1, by omega, by go_num, HR2, by (repeat (first | with_reducible exact Below.refl _ _ | ((with_reducible refine Below.alloc1 ?_ ?_ _); (· first | omega | (simp; done) | (simp; omega))) | (with_reducible refine Below.drew ?_) | (with_reducible refine below_drewN' ?_ _) | ((with_reducible refine Below.setCell1 ?_ ?_ _); (· first | omega | (simp; done) | (simp; omega))) | ((with_reducible refine Below.after (by assumption) ?_ ?_); (· first | omega | (simp; done) | (simp; omega)))))⟩
     case measure => simp [intOf]; omega
   ·obtain rfl : k = n := by omega
    have Hv : Hid (v = true) := hid (by
     rw [← HV.out, decide_eq_true_eq]
     apply List.ext_getElem?
     intro j
     by_cases hj : j < k
     ·exact HR.out j hj
     ·rw [List.getElem?_eq_none (by rw [HN.out]; omega), List.getElem?_eq_none (by rw [HN'.out]; omega)])
    go_wp2
    go_ret
    exact ⟨ret_bool (by rw [Hv.out]), by (repeat (first | with_reducible exact Below.refl _ _ | ((with_reducible refine Below.alloc1 ?_ ?_ _); (· first | omega | (simp; done) | (simp; omega))) | (with_reducible refine Below.drew ?_) | (with_reducible refine below_drewN' ?_ _) | ((with_reducible refine Below.setCell1 ?_ ?_ _); (· first | omega | (simp; done) | (simp; omega))) | ((with_reducible refine Below.after (by assumption) ?_ ?_); (· first | omega | (simp; done) | (simp; omega)))))⟩
 ·have hb1 : ((n : Int) != (n' : Int)) = true := by simp; omega
  have Hv : Hid (v = false) := hid (by
   rw [← hv, decide_eq_false_iff_not]
   intro h
   rw [h] at hn; omega)
  clear hv hx hy hn hn'
  go_enter Tryz.func138, Tryz.ntmps138
  go_wp2
  go_ret
  exact ⟨ret_bool (by rw [Hv.out]), by (repeat (first | with_reducible exact Below.refl _ _ | ((with_reducible refine Below.alloc1 ?_ ?_ _); (· first | omega | (simp; done) | (simp; omega))) | (with_reducible refine Below.drew ?_) | (with_reducible refine below_drewN' ?_ _) | ((with_reducible refine Below.setCell1 ?_ ?_ _); (· first | omega | (simp; done) | (simp; omega))) | ((with_reducible refine Below.after (by assumption) ?_ ?_); (· first | omega | (simp; done) | (simp; omega)))))⟩

theorem rising_any (a : Option Addr) (c n : Nat) (xs : List Nat) (v : Bool) (w : World) (hn : xs.length = n) (h : FAt w a xs) (hl : n ≤ 17592186044414) (hv : decide (xs = bits (fsort xs)) = v) :
  Calls Tryz.prog 98 #[.slice a n c] w (Ret (.bool v) w) := by
 have H := fsort_any a c n xs w hn h hl
 have hfl := fsort_len xs
 rw [hn] at hfl
 have HN := hid hn; have HV := hid hv
 clear hn hv
 go_enter Tryz.func98, Tryz.ntmps98
 go_wp2_with fail
 refine H.mono ?_
 rintro e w1 ⟨a1, c1, rfl, hown1, hb1⟩
 have H2 := equalF_any a a1 c c1 n (fsort xs).length xs (bits (fsort xs)) v w1 HN.out (bits_len _) (h.below hb1) (FRet.fat hown1 (by omega)) HV.out
 clear H hown1
 go_wp2_with fail
 refine H2.mono ?_
 rintro e w2 ⟨rfl, hb2⟩
 go_wp2_with fail
 go_ret
 exact ⟨rfl, hb1.trans (hb2.mono hb1.size)⟩
end Go.Proofs.YtekmadgacepdfaaGreat.K
