/- The document's Check: the search for NaN, the walk. -/
import Derived.Test.YtekmadgacepdfaaGreatQ0
import Derived.Test.YtekmadgacepdfaaGreatMKD
import Derived.Test.YtekmadgacepdfaaGreatKR
namespace Go.Proofs.YtekmadgacepdfaaGreat.K
set_option linter.unusedVariables false
set_option linter.unusedSimpArgs false
open Go.RowKit Fl

theorem refNanL_any (a : Option Addr) (c n : Nat) (xs : List Nat) (v : Bool) (w : World) (hn : xs.length = n) (h : FAt w a xs) (hv : xs.any isNaN = v) :
  Calls Tryz.prog 87 #[.slice a n c] w fun e w' => e = .returned (.bool v) ∧ w = w' := by
 obtain ⟨hr, hl, hm⟩ := h
 unfold maxLen at hm
 rw [hn] at hm
 have HN := hid hn; have HV := hid hv; have HL := hid hl
 clear hn hv hl
 go_enter Tryz.func87, Tryz.ntmps87
 go_wp2
 go_loop [3] (fun i => ∃ k : Nat, k ≤ n ∧ i = .int .i64 k ∧ Hid (∀ j : Nat, j < k → ∀ y, xs[j]? = some y → isNaN y = false)) (fun i => n - (intOf i).toNat)
 case atStart => exact ⟨0, Nat.zero_le _, rfl, hid fun j hj => absurd hj (Nat.not_lt_zero _)⟩
 case round =>
  obtain ⟨k, hk, rfl, HR⟩ := hrel
  by_cases hlt : k < n
  ·have hkl : k < xs.length := by rw [HN.out]; exact hlt
   rcases hr with h0 | ⟨b, o, rfl, hb, hc⟩
   ·rw [h0] at hkl; simp at hkl
   have hcell := hc k hkl
   have hl1 := HL.out k hkl
   have hlt' : (k : Int) < (n : Int) := by omega
   have hkx := hid (fl_some hkl)
   clear hc hkl
   generalize xs[k]?.getD 0 = x at *
   have H := fun W => refNan_any x hl1 W
   cases hp : isNaN x
   ·rw [hp] at H
    have HP := hid hp
    clear hp
    go_wp2_with (go_at_call 79; (with_reducible refine (H _).mono ?_); rintro e w' ⟨rfl, rfl⟩)
    go_round
    case rel => exact ⟨k + 1, by omega, by go_num, hid fun j hj y hy => by
      by_cases h : j < k
      ·exact HR.out j h y hy
      ·obtain rfl : j = k := by omega
       rw [hkx.out] at hy; cases hy; exact HP.out⟩
    case measure => simp [intOf]; omega
   ·rw [hp] at H
    have Hv : Hid (v = true) := hid (by rw [← HV.out, List.any_eq_true]; exact ⟨x, List.mem_of_getElem? hkx.out, hp⟩)
    clear hp
    go_wp2_with (go_at_call 79; (with_reducible refine (H _).mono ?_); rintro e w' ⟨rfl, rfl⟩)
    go_ret
    exact ⟨ret_bool (by rw [Hv.out]), rfl⟩
  ·obtain rfl : k = n := by omega
   have Hv : Hid (v = false) := hid (by
    rw [← HV.out, List.any_eq_false]
    intro x hx
    obtain ⟨j, hj⟩ := List.mem_iff_getElem?.1 hx
    have := (List.getElem?_eq_some_iff.1 hj).1
    rw [HR.out j (by have := HN.out; omega) x hj]; simp)
   go_wp2
   go_ret
   exact ⟨ret_bool (by rw [Hv.out]), rfl⟩

def FloatsRow (L : List Nat) (v : Value) (w : World) : Prop := ∃ a c, v = .slice a L.length c ∧ FAt w a L
theorem FloatsRow.below {L : List Nat} {v : Value} {w w' : World} (h : FloatsRow L v w) (hb : Below w.heap.size w w') : FloatsRow L v w' := by
 obtain ⟨a, c, h1, h2⟩ := h
 exact ⟨a, c, h1, h2.below hb⟩
def RangesRow (G : List RK) (v : Value) (w : World) : Prop := ∃ base, (∃ a c, v = .slice a G.length c) ∧ w.ownsRow base 143 2 v G.length (N.rCells G)
theorem RangesRow.below {G : List RK} {v : Value} {w w' : World} (h : RangesRow G v w) (hb : Below w.heap.size w w') : RangesRow G v w' := by
 obtain ⟨base, h1, h2⟩ := h
 exact ⟨base, h1, h2.kept (grown_of_below hb) (by cases v.ownBlock <;> simp)⟩

set_option maxHeartbeats 4000000 in
set_option maxRecDepth 100000 in
theorem refCheck_w (s0 s1 s2 : Int) (ra sa wa : Option Addr) (n1 n2 n3 rc sc wc : Nat) (ss : List SpanV) (G : List RK) (L1 L3 : List Nat) (a1 a2 em o1 o2 o3 : Bool) (w : World)
  (k1 : (1 : Int) ≤ s0) (k2 : s0 ≤ 1099511627776) (k3 : (1 : Int) ≤ s1) (k4 : s1 ≤ 1099511627776) (k5 : (0 : Int) ≤ s2) (k6 : s2 ≤ 1099511627776) (m1 : n1 ≤ 16) (m2 : n2 ≤ 8) (m3 : n3 ≤ 16)
  (HN : Hid (ss.length = n2)) (HS : Hid (SAt w sa ss)) (HM : Hid (hasE ss = em))
  (Ha1 : ∀ W, Below w.heap.size w W → Calls Tryz.prog 87 #[.slice ra n1 rc] W fun e w' => e = .returned (.bool a1) ∧ W = w')
  (Ha2 : ∀ W, Below w.heap.size w W → Calls Tryz.prog 87 #[.slice wa n3 wc] W fun e w' => e = .returned (.bool a2) ∧ W = w')
  (Hs1 : ∀ W, Below w.heap.size w W → Calls Tryz.prog 76 #[.slice ra n1 rc] W fun e W' => ∃ v, e = .returned v ∧ FloatsRow L1 v W' ∧ Below W.heap.size W W')
  (Hs2 : ∀ W, Below w.heap.size w W → Calls Tryz.prog 76 #[.slice wa n3 wc] W fun e W' => ∃ v, e = .returned v ∧ FloatsRow L3 v W' ∧ Below W.heap.size W W')
  (Hk1 : ∀ (v : Value) (W : World), FloatsRow L1 v W → Below w.heap.size w W → Calls Tryz.prog 90 #[.slice ra n1 rc, v] W (Ret (.bool o1) W))
  (Hk2 : ∀ (v : Value) (W : World), FloatsRow L3 v W → Below w.heap.size w W → Calls Tryz.prog 90 #[.slice wa n3 wc, v] W (Ret (.bool o2) W))
  (HrN : ∀ W, Below w.heap.size w W → Calls Tryz.prog 78 #[.slice sa n2 sc] W fun e W' => ∃ v, e = .returned v ∧ RangesRow G v W' ∧ Below W.heap.size W W')
  (HrS : ∀ (v : Value) (W : World), RangesRow G v W → Calls Tryz.prog 77 #[v] W fun e W' => ∃ v, e = .returned v ∧ FormsRow G v W' ∧ Below W.heap.size W W')
  (HrE : ∀ (v : Value) (W : World), FormsRow G v W → Below w.heap.size w W → Calls Tryz.prog 91 #[.slice sa n2 sc, v] W (Ret (.bool o3) W)) :
  Calls Tryz.prog 51 #[.agg #[.int .i64 s0, .int .i64 s1, .int .i64 s2, .slice ra n1 rc, .slice sa n2 sc, .slice wa n3 wc]] w (Ret (.int .i64 (checkI true false a1 a2 em o1 o2 o3)) w) := by
 have q1 : ¬ s0 < 1 := by omega
 have q2 : ¬ (1099511627776 : Int) < s0 := by omega
 have q3 : ¬ s1 < 1 := by omega
 have q4 : ¬ (1099511627776 : Int) < s1 := by omega
 have q5 : ¬ s2 < 0 := by omega
 have q6 : ¬ (1099511627776 : Int) < s2 := by omega
 have p1 : ¬ (16 : Int) < (n1 : Int) := by omega
 have p2 : ¬ (8 : Int) < (n2 : Int) := by omega
 have p3 : ¬ (16 : Int) < (n3 : Int) := by omega
 clear k1 k2 k3 k4 k5 k6
 cases a1
 rotate_left
 ·show Calls _ _ _ _ (Ret (.int .i64 40) w)
  clear Hs1 Hs2 Hk1 Hk2 HrN HrS HrE
  go_enter Tryz.func51, Tryz.ntmps51
  go_wp2_with (first | (go_at_call 87; (with_reducible refine (Ha1 _ (by exact below_auto)).mono ?_); rintro e w' ⟨rfl, rfl⟩) | (go_at_call 87; (with_reducible refine (Ha2 _ (by exact below_auto)).mono ?_); rintro e w' ⟨rfl, rfl⟩))
  go_ret
  exact ⟨rfl, by exact below_auto⟩
 cases a2
 rotate_left
 ·show Calls _ _ _ _ (Ret (.int .i64 40) w)
  clear Hs1 Hs2 Hk1 Hk2 HrN HrS HrE
  go_enter Tryz.func51, Tryz.ntmps51
  go_wp2_with (first | (go_at_call 87; (with_reducible refine (Ha1 _ (by exact below_auto)).mono ?_); rintro e w' ⟨rfl, rfl⟩) | (go_at_call 87; (with_reducible refine (Ha2 _ (by exact below_auto)).mono ?_); rintro e w' ⟨rfl, rfl⟩))
  go_ret
  exact ⟨rfl, by exact below_auto⟩
 have HQ : Hid (em = true → checkI true false false false em o1 o2 o3 = 41) := hid (fun h => by rw [h]; rfl)
 have HQ2 : Hid (em = false → checkI true false false false em o1 o2 o3 = if (o1 && o2 && o3) = true then 0 else 42) := hid (fun h => by rw [h]; rfl)
 obtain ⟨V, HV⟩ : ∃ V, Hid (V = checkI true false false false em o1 o2 o3) := ⟨_, hid rfl⟩
 rw [← HV.out]
 go_enter Tryz.func51, Tryz.ntmps51
 go_wp2_with (first | (go_at_call 87; (with_reducible refine (Ha1 _ (by exact below_auto)).mono ?_); rintro e w' ⟨rfl, rfl⟩) | (go_at_call 87; (with_reducible refine (Ha2 _ (by exact below_auto)).mono ?_); rintro e w' ⟨rfl, rfl⟩))
 have hA : Below w.heap.size w (w.alloc (.cells #[.int .i64 s0, .int .i64 s1, .int .i64 s2, .slice ra n1 rc, .slice sa n2 sc, .slice wa n3 wc] 35)) := by exact below_auto
 generalize hW0 : World.alloc _ _ = w0 at *
 have hz0 : w.heap.size < w0.heap.size := by rw [← hW0]; simp
 have b3 : w0.cell? ⟨w.heap.size, 3, none⟩ = some (.slice ra n1 rc) := by rw [← hW0]; simp [go_sem]
 have b4 : w0.cell? ⟨w.heap.size, 4, none⟩ = some (.slice sa n2 sc) := by rw [← hW0]; simp [go_sem]
 have b5 : w0.cell? ⟨w.heap.size, 5, none⟩ = some (.slice wa n3 wc) := by rw [← hW0]; simp [go_sem]
 clear hW0 Ha1 Ha2
 go_loopw [3] (fun iv wr => ∃ k : Nat, k ≤ n2 ∧ iv = .int .i64 k ∧ Hid (∀ j : Nat, j < k → ∀ y, ss[j]? = some y → y.rg.isNone = false) ∧ Below w0.heap.size w0 wr) (fun iv _ => n2 - (intOf iv).toNat)
 case atStart => exact ⟨0, Nat.zero_le _, rfl, hid fun j hj => absurd hj (Nat.not_lt_zero _), Below.refl _ _⟩
 case round =>
  obtain ⟨k, hk, rfl, HR, hb⟩ := hrel
  have hz := hb.size
  have hbw : Below w.heap.size w wr := hA.trans (hb.mono (by omega))
  have c3 := (hb.cell (p := ⟨w.heap.size, 3, none⟩) hz0).trans b3
  have c4 := (hb.cell (p := ⟨w.heap.size, 4, none⟩) hz0).trans b4
  have c5 := (hb.cell (p := ⟨w.heap.size, 5, none⟩) hz0).trans b5
  have hzr : w.heap.size < wr.heap.size := by omega
  by_cases hlt : k < n2
  ·have hlt' : (k : Int) < (n2 : Int) := by omega
   have hil : k < ss.length := by rw [HN.out]; exact hlt
   have hx := hid (sp_some hil)
   obtain ⟨l1, l2⟩ := HS.out.lt k hil
   rcases HS.out.row with h0 | ⟨g, o, rfl, hg, hcs⟩
   ·rw [h0] at hil; simp at hil
   obtain ⟨e0, e1, e2, e3⟩ := hcs k hil
   have kk := fun j => hbw.cell (p := ⟨g, j, none⟩) hg
   have d0 := (kk _).trans e0; have d1 := (kk _).trans e1; have d2 := (kk _).trans e2; have d3 := (kk _).trans e3
   clear e0 e1 e2 e3 kk hcs hil Hs1 Hs2 Hk1 Hk2 HrN HrS HrE
   generalize ss[k]?.getD default = s at *
   have hgw : g < wr.heap.size := by omega
   rcases hr : canonS s.lo s.hi s.a s.b with _ | ⟨l, h⟩
   ·have HRR := hid hr
    have HOf : ∀ W, Calls Tryz.prog 89 #[.agg #[.float .f64 s.lo, .float .f64 s.hi, .bool s.a, .bool s.b]] W (Ret (.agg #[.int .u64 1, .int .u64 0]) W) := fun W => refOf_is s.lo s.hi s.a s.b none W l1 l2 HRR
    have Hem : Hid (em = true) := hid (by
     rw [← HM.out]; unfold hasE
     rw [List.any_eq_true]
     exact ⟨s, List.mem_of_getElem? hx.out, by show (canonS s.lo s.hi s.a s.b).isNone = true; rw [hr]; rfl⟩)
    clear hr
    go_wp2_with (first | (go_at_call 89; (with_reducible refine (HOf _).mono ?_); rintro e w1 ⟨rfl, hb1⟩; obtain ⟨hc1, hf1⟩ := bcell hb1; (try simp only [qD, qE, qF] at hc1 hf1); have hz1 := hb1.size; (try simp at hz1); (try have hy1_0 : w.heap.size < w1.heap.size := by omega); (try have hy1_1 : w.heap.size + 1 < w1.heap.size := by omega); (try have hy1_2 : w.heap.size + 2 < w1.heap.size := by omega); (try have hy1_3 : w.heap.size + 3 < w1.heap.size := by omega); (try have hx1_0 : w.heap.size ≤ w1.heap.size := by omega); (try have hx1_1 : w.heap.size + 1 ≤ w1.heap.size := by omega); (try have hx1_2 : w.heap.size + 2 ≤ w1.heap.size := by omega); (try have hu1_wr_0 : wr.heap.size < w1.heap.size := by omega); (try have hu1_wr_1 : wr.heap.size + 1 < w1.heap.size := by omega)) | (go_at_call 88; (with_reducible refine (refEmpty_none _).mono ?_); rintro e w2 ⟨rfl, hb2⟩; obtain ⟨hc2, hf2⟩ := bcell hb2; (try simp only [qD, qE, qF] at hc2 hf2); have hz2 := hb2.size; (try simp at hz2); (try have hy2_0 : w.heap.size < w2.heap.size := by omega); (try have hy2_1 : w.heap.size + 1 < w2.heap.size := by omega); (try have hy2_2 : w.heap.size + 2 < w2.heap.size := by omega); (try have hy2_3 : w.heap.size + 3 < w2.heap.size := by omega); (try have hx2_0 : w.heap.size ≤ w2.heap.size := by omega); (try have hx2_1 : w.heap.size + 1 ≤ w2.heap.size := by omega); (try have hx2_2 : w.heap.size + 2 ≤ w2.heap.size := by omega); (try have hu2_wr_0 : wr.heap.size < w2.heap.size := by omega); (try have hu2_wr_1 : wr.heap.size + 1 < w2.heap.size := by omega)))
    go_ret
    exact ⟨ret_int (by rw [HV.out, HQ.out Hem.out]), by exact below_auto⟩
   ·have HRR := hid hr
    have hle := canonS_le hr
    have HOf : ∀ W, Calls Tryz.prog 89 #[.agg #[.float .f64 s.lo, .float .f64 s.hi, .bool s.a, .bool s.b]] W (Ret (.agg #[.int .u64 (kcode l), .int .u64 (kcode h)]) W) := fun W => refOf_is s.lo s.hi s.a s.b (some (l, h)) W l1 l2 HRR
    have HR2 : Hid (∀ j : Nat, j < k + 1 → ∀ y, ss[j]? = some y → y.rg.isNone = false) := hid fun j hj y hy => by
     by_cases h : j < k
     ·exact HR.out j h y hy
     ·obtain rfl : j = k := by omega
      rw [hx.out] at hy; cases hy
      show (canonS s.lo s.hi s.a s.b).isNone = false
      rw [hr]; rfl
    clear hr
    go_wp2_with (first | (go_at_call 89; (with_reducible refine (HOf _).mono ?_); rintro e w1 ⟨rfl, hb1⟩; obtain ⟨hc1, hf1⟩ := bcell hb1; (try simp only [qD, qE, qF] at hc1 hf1); have hz1 := hb1.size; (try simp at hz1); (try have hy1_0 : w.heap.size < w1.heap.size := by omega); (try have hy1_1 : w.heap.size + 1 < w1.heap.size := by omega); (try have hy1_2 : w.heap.size + 2 < w1.heap.size := by omega); (try have hy1_3 : w.heap.size + 3 < w1.heap.size := by omega); (try have hx1_0 : w.heap.size ≤ w1.heap.size := by omega); (try have hx1_1 : w.heap.size + 1 ≤ w1.heap.size := by omega); (try have hx1_2 : w.heap.size + 2 ≤ w1.heap.size := by omega); (try have hu1_wr_0 : wr.heap.size < w1.heap.size := by omega); (try have hu1_wr_1 : wr.heap.size + 1 < w1.heap.size := by omega)) | (go_at_call 88; (with_reducible refine (refEmpty_some l h (hid hle) _).mono ?_); rintro e w2 ⟨rfl, hb2⟩; obtain ⟨hc2, hf2⟩ := bcell hb2; (try simp only [qD, qE, qF] at hc2 hf2); have hz2 := hb2.size; (try simp at hz2); (try have hy2_0 : w.heap.size < w2.heap.size := by omega); (try have hy2_1 : w.heap.size + 1 < w2.heap.size := by omega); (try have hy2_2 : w.heap.size + 2 < w2.heap.size := by omega); (try have hy2_3 : w.heap.size + 3 < w2.heap.size := by omega); (try have hx2_0 : w.heap.size ≤ w2.heap.size := by omega); (try have hx2_1 : w.heap.size + 1 ≤ w2.heap.size := by omega); (try have hx2_2 : w.heap.size + 2 ≤ w2.heap.size := by omega); (try have hu2_wr_0 : wr.heap.size < w2.heap.size := by omega); (try have hu2_wr_1 : wr.heap.size + 1 < w2.heap.size := by omega)))
    go_roundw
    case rel => exact ⟨k + 1, by omega, by go_num, HR2, (by (repeat (first | with_reducible exact Below.refl _ _ | ((with_reducible refine Below.alloc1 ?_ ?_ _); (· first | omega | (simp; done) | (simp; omega))) | (with_reducible refine Below.drew ?_) | (with_reducible refine below_drewN' ?_ _) | ((with_reducible refine Below.setCell1 ?_ ?_ _); (· first | omega | (simp; done) | (simp; omega))) | ((with_reducible refine Below.after (by assumption) ?_ ?_); (· first | omega | (simp; done) | (simp; omega))))); exact hb)⟩
    case measure => simp [intOf]; omega
  ·obtain rfl : k = n2 := by omega
   have hemf : em = false := by
    rw [← HM.out]; unfold hasE
    rw [List.any_eq_false]
    intro x hx
    obtain ⟨j, hj⟩ := List.mem_iff_getElem?.1 hx
    have := (List.getElem?_eq_some_iff.1 hj).1
    rw [HR.out j (by have := HN.out; omega) x hj]; simp
   have hV := HV.out.trans (HQ2.out hemf)
   clear HV HQ HQ2 HR b3 b4 b5
   go_upto_region 12 with fail
   cases o1
   ·have hV' : V = 42 := by rw [hV]; rfl
    subst hV'
    clear hV
    refine wp_region_notesG [Note.val (.pointer (some ⟨w.heap.size, 3, none⟩)), Note.val (.slice ra n1 rc), Note.val (.pointer (some ⟨w.heap.size, 3, none⟩)), Note.val (.slice ra n1 rc), Note.fits (FloatsRow L1) (fun _ _ _ h hb => h.below hb), Note.val (.bool false), Note.val (.bool true), Note.val (.bool true), Note.val undef, Note.val undef, Note.val undef, Note.val undef, Note.val undef, Note.val undef, Note.val undef, Note.val (.bool true), Note.val (.bool true), Note.val undef, Note.val undef, Note.val undef, Note.val undef, Note.val undef, Note.val undef, Note.val undef, Note.val undef, Note.val (.bool true)] rfl (by kernel_rfl) (by kernel_rfl) ?_ ?_
    ·simp only [List.length_cons, List.length_nil, Nat.reduceAdd, List.take_succ_cons, List.take_zero, StepsG, List.nil_append, List.cons_append]
     refine ⟨?_, ?_, ?_, ?_, ?_, ?_, ?_, ?_, ?_, ?_, ?_, ?_, ?_, ?_, ?_, ?_, ?_, ?_, ?_, ?_, ?_, ?_, ?_, ?_, ?_, ?_, trivial⟩
     ·(first | refine StepG.run rfl ?_ | refine StepG.on rfl rfl ?_)
      (try dsimp only)
      intro u w5 hb5 hd
      obtain ⟨hc5, hf5⟩ := bcell hb5
      have hz5 := hb5.size
      (try (simp [Region.binds, Note.phi] at hd))
      (try simp only [putsFrom, Act.put, qA, qB, qC, Nat.zero_add, Nat.reduceAdd])
      (try simp only [hd])
      revert hd
      ((try simp only [and_imp]); intros)
      go_wp2_with fail
      exact ⟨rfl, Below.refl _ _, rfl⟩
     ·(first | refine StepG.run rfl ?_ | refine StepG.on rfl rfl ?_)
      (try dsimp only)
      intro u w5 hb5 hd
      obtain ⟨hc5, hf5⟩ := bcell hb5
      have hz5 := hb5.size
      (try (simp [Region.binds, Note.phi] at hd))
      (try simp only [putsFrom, Act.put, qA, qB, qC, Nat.zero_add, Nat.reduceAdd])
      (try simp only [hd])
      revert hd
      ((try simp only [and_imp]); intros)
      go_wp2_with fail
      exact ⟨rfl, Below.refl _ _, rfl⟩
     ·(first | refine StepG.run rfl ?_ | refine StepG.on rfl rfl ?_)
      (try dsimp only)
      intro u w5 hb5 hd
      obtain ⟨hc5, hf5⟩ := bcell hb5
      have hz5 := hb5.size
      (try (simp [Region.binds, Note.phi] at hd))
      (try simp only [putsFrom, Act.put, qA, qB, qC, Nat.zero_add, Nat.reduceAdd])
      (try simp only [hd])
      revert hd
      ((try simp only [and_imp]); intros)
      go_wp2_with fail
      exact ⟨rfl, Below.refl _ _, rfl⟩
     ·(first | refine StepG.run rfl ?_ | refine StepG.on rfl rfl ?_)
      (try dsimp only)
      intro u w5 hb5 hd
      obtain ⟨hc5, hf5⟩ := bcell hb5
      have hz5 := hb5.size
      (try (simp [Region.binds, Note.phi] at hd))
      (try simp only [putsFrom, Act.put, qA, qB, qC, Nat.zero_add, Nat.reduceAdd])
      (try simp only [hd])
      revert hd
      ((try simp only [and_imp]); intros)
      go_wp2_with fail
      exact ⟨rfl, Below.refl _ _, rfl⟩
     ·(first | refine StepG.run rfl ?_ | refine StepG.on rfl rfl ?_)
      (try dsimp only)
      intro u w5 hb5 hd
      obtain ⟨hc5, hf5⟩ := bcell hb5
      have hz5 := hb5.size
      (try (simp [Region.binds, Note.phi] at hd))
      (try simp only [putsFrom, Act.put, qA, qB, qC, Nat.zero_add, Nat.reduceAdd])
      (try simp only [hd])
      revert hd
      ((try simp only [and_imp]); intros)
      go_wp2_with (go_at_call 76; (with_reducible refine (Hs1 _ (by exact below_auto)).mono ?_); rintro e wy ⟨vy, rfl, hpy, hby⟩)
      exact ⟨rfl, by exact below_auto, by assumption⟩
     ·(first | refine StepG.run rfl ?_ | refine StepG.on rfl rfl ?_)
      (try dsimp only)
      intro u w5 hb5 hd
      obtain ⟨hc5, hf5⟩ := bcell hb5
      have hz5 := hb5.size
      (try (simp [Region.binds, Note.phi] at hd))
      (try simp only [putsFrom, Act.put, qA, qB, qC, Nat.zero_add, Nat.reduceAdd])
      (try simp only [hd])
      revert hd
      ((try simp only [and_imp]); intros)
      go_wp2_with (go_at_call 90; (with_reducible refine (Hk1 _ _ (by assumption) (by exact below_auto)).mono ?_); rintro e wy ⟨rfl, hby⟩)
      exact ⟨rfl, by exact below_auto, rfl⟩
     ·(first | refine StepG.run rfl ?_ | refine StepG.on rfl rfl ?_)
      (try dsimp only)
      intro u w5 hb5 hd
      obtain ⟨hc5, hf5⟩ := bcell hb5
      have hz5 := hb5.size
      (try (simp [Region.binds, Note.phi] at hd))
      (try simp only [putsFrom, Act.put, qA, qB, qC, Nat.zero_add, Nat.reduceAdd])
      (try simp only [hd])
      revert hd
      ((try simp only [and_imp]); intros)
      go_wp2_with fail
      exact ⟨rfl, Below.refl _ _, rfl⟩
     ·(first | refine StepG.run rfl ?_ | refine StepG.on rfl rfl ?_)
      (try dsimp only)
      intro u w5 hb5 hd
      obtain ⟨hc5, hf5⟩ := bcell hb5
      have hz5 := hb5.size
      (try (simp [Region.binds, Note.phi] at hd))
      (try simp only [putsFrom, Act.put, qA, qB, qC, Nat.zero_add, Nat.reduceAdd])
      (try simp only [hd])
      revert hd
      ((try simp only [and_imp]); intros)
      go_wp2_with fail
      exact ⟨rfl, Below.refl _ _, rfl⟩
     ·exact StepG.off rfl rfl (by decide) rfl
     ·exact StepG.off rfl rfl (by decide) rfl
     ·exact StepG.off rfl rfl (by decide) rfl
     ·exact StepG.off rfl rfl (by decide) rfl
     ·exact StepG.off rfl rfl (by decide) rfl
     ·exact StepG.off rfl rfl (by decide) rfl
     ·exact StepG.off rfl rfl (by decide) rfl
     ·(first | refine StepG.run rfl ?_ | refine StepG.on rfl rfl ?_)
      (try dsimp only)
      intro u w5 hb5 hd
      obtain ⟨hc5, hf5⟩ := bcell hb5
      have hz5 := hb5.size
      (try (simp [Region.binds, Note.phi] at hd))
      (try simp only [putsFrom, Act.put, qA, qB, qC, Nat.zero_add, Nat.reduceAdd])
      (try simp only [hd])
      revert hd
      ((try simp only [and_imp]); intros)
      go_wp2_with fail
      exact ⟨rfl, Below.refl _ _, rfl⟩
     ·(first | refine StepG.run rfl ?_ | refine StepG.on rfl rfl ?_)
      (try dsimp only)
      intro u w5 hb5 hd
      obtain ⟨hc5, hf5⟩ := bcell hb5
      have hz5 := hb5.size
      (try (simp [Region.binds, Note.phi] at hd))
      (try simp only [putsFrom, Act.put, qA, qB, qC, Nat.zero_add, Nat.reduceAdd])
      (try simp only [hd])
      revert hd
      ((try simp only [and_imp]); intros)
      go_wp2_with fail
      exact ⟨rfl, Below.refl _ _, rfl⟩
     ·exact StepG.off rfl rfl (by decide) rfl
     ·exact StepG.off rfl rfl (by decide) rfl
     ·exact StepG.off rfl rfl (by decide) rfl
     ·exact StepG.off rfl rfl (by decide) rfl
     ·exact StepG.off rfl rfl (by decide) rfl
     ·exact StepG.off rfl rfl (by decide) rfl
     ·exact StepG.off rfl rfl (by decide) rfl
     ·exact StepG.off rfl rfl (by decide) rfl
     ·(first | refine StepG.run rfl ?_ | refine StepG.on rfl rfl ?_)
      (try dsimp only)
      intro u w5 hb5 hd
      obtain ⟨hc5, hf5⟩ := bcell hb5
      have hz5 := hb5.size
      (try (simp [Region.binds, Note.phi] at hd))
      (try simp only [putsFrom, Act.put, qA, qB, qC, Nat.zero_add, Nat.reduceAdd])
      (try simp only [hd])
      revert hd
      ((try simp only [and_imp]); intros)
      go_wp2_with fail
      exact ⟨rfl, Below.refl _ _, rfl⟩
    ·intro u w5 hb5 hph hap
     obtain ⟨hc5, hf5⟩ := bcell hb5
     have hz5 := hb5.size
     have hp0 := hph 0 (by simp)
     have hp1 := hph 1 (by simp)
     have hp2 := hph 2 (by simp)
     have hp3 := hph 3 (by simp)
     have hp4 := hph 4 (by simp)
     have hp5 := hph 5 (by simp)
     have hp6 := hph 6 (by simp)
     have hp7 := hph 7 (by simp)
     have hp8 := hph 8 (by simp)
     have hp9 := hph 9 (by simp)
     have hp10 := hph 10 (by simp)
     have hp11 := hph 11 (by simp)
     have hp12 := hph 12 (by simp)
     have hp13 := hph 13 (by simp)
     have hp14 := hph 14 (by simp)
     have hp15 := hph 15 (by simp)
     have hp16 := hph 16 (by simp)
     have hp17 := hph 17 (by simp)
     have hp18 := hph 18 (by simp)
     have hp19 := hph 19 (by simp)
     have hp20 := hph 20 (by simp)
     have hp21 := hph 21 (by simp)
     have hp22 := hph 22 (by simp)
     have hp23 := hph 23 (by simp)
     have hp24 := hph 24 (by simp)
     have hp25 := hph 25 (by simp)
     clear hph hap
     simp only [List.length_cons, List.length_nil, List.take_succ_cons, List.take_zero, List.drop_succ_cons, List.drop_zero, putsFrom, Act.put, qA, qB, qC, Nat.zero_add, Nat.reduceAdd]
     generalize u 0 = u0 at *
     cases hp0
     generalize u 1 = u1 at *
     cases hp1
     generalize u 2 = u2 at *
     cases hp2
     generalize u 3 = u3 at *
     cases hp3
     generalize u 4 = u4 at *
     have hp4 : (FloatsRow L1) u4 w5 := hp4
     generalize u 5 = u5 at *
     cases hp5
     generalize u 6 = u6 at *
     cases hp6
     generalize u 7 = u7 at *
     cases hp7
     generalize u 8 = u8 at *
     cases hp8
     generalize u 9 = u9 at *
     cases hp9
     generalize u 10 = u10 at *
     cases hp10
     generalize u 11 = u11 at *
     cases hp11
     generalize u 12 = u12 at *
     cases hp12
     generalize u 13 = u13 at *
     cases hp13
     generalize u 14 = u14 at *
     cases hp14
     generalize u 15 = u15 at *
     cases hp15
     generalize u 16 = u16 at *
     cases hp16
     generalize u 17 = u17 at *
     cases hp17
     generalize u 18 = u18 at *
     cases hp18
     generalize u 19 = u19 at *
     cases hp19
     generalize u 20 = u20 at *
     cases hp20
     generalize u 21 = u21 at *
     cases hp21
     generalize u 22 = u22 at *
     cases hp22
     generalize u 23 = u23 at *
     cases hp23
     generalize u 24 = u24 at *
     cases hp24
     generalize u 25 = u25 at *
     cases hp25
     clear u
     go_wp2_with fail
     go_ret
     exact ⟨rfl, by exact below_auto⟩
   cases o2
   ·have hV' : V = 42 := by rw [hV]; rfl
    subst hV'
    clear hV
    refine wp_region_notesG [Note.val (.pointer (some ⟨w.heap.size, 3, none⟩)), Note.val (.slice ra n1 rc), Note.val (.pointer (some ⟨w.heap.size, 3, none⟩)), Note.val (.slice ra n1 rc), Note.fits (FloatsRow L1) (fun _ _ _ h hb => h.below hb), Note.val (.bool true), Note.val (.bool false), Note.val (.bool false), Note.val (.pointer (some ⟨w.heap.size, 5, none⟩)), Note.val (.slice wa n3 wc), Note.val (.pointer (some ⟨w.heap.size, 5, none⟩)), Note.val (.slice wa n3 wc), Note.fits (FloatsRow L3) (fun _ _ _ h hb => h.below hb), Note.val (.bool false), Note.val (.bool true), Note.val (.bool true), Note.val (.bool true), Note.val undef, Note.val undef, Note.val undef, Note.val undef, Note.val undef, Note.val undef, Note.val undef, Note.val undef, Note.val (.bool true)] rfl (by kernel_rfl) (by kernel_rfl) ?_ ?_
    ·simp only [List.length_cons, List.length_nil, Nat.reduceAdd, List.take_succ_cons, List.take_zero, StepsG, List.nil_append, List.cons_append]
     refine ⟨?_, ?_, ?_, ?_, ?_, ?_, ?_, ?_, ?_, ?_, ?_, ?_, ?_, ?_, ?_, ?_, ?_, ?_, ?_, ?_, ?_, ?_, ?_, ?_, ?_, ?_, trivial⟩
     ·(first | refine StepG.run rfl ?_ | refine StepG.on rfl rfl ?_)
      (try dsimp only)
      intro u w5 hb5 hd
      obtain ⟨hc5, hf5⟩ := bcell hb5
      have hz5 := hb5.size
      (try (simp [Region.binds, Note.phi] at hd))
      (try simp only [putsFrom, Act.put, qA, qB, qC, Nat.zero_add, Nat.reduceAdd])
      (try simp only [hd])
      revert hd
      ((try simp only [and_imp]); intros)
      go_wp2_with fail
      exact ⟨rfl, Below.refl _ _, rfl⟩
     ·(first | refine StepG.run rfl ?_ | refine StepG.on rfl rfl ?_)
      (try dsimp only)
      intro u w5 hb5 hd
      obtain ⟨hc5, hf5⟩ := bcell hb5
      have hz5 := hb5.size
      (try (simp [Region.binds, Note.phi] at hd))
      (try simp only [putsFrom, Act.put, qA, qB, qC, Nat.zero_add, Nat.reduceAdd])
      (try simp only [hd])
      revert hd
      ((try simp only [and_imp]); intros)
      go_wp2_with fail
      exact ⟨rfl, Below.refl _ _, rfl⟩
     ·(first | refine StepG.run rfl ?_ | refine StepG.on rfl rfl ?_)
      (try dsimp only)
      intro u w5 hb5 hd
      obtain ⟨hc5, hf5⟩ := bcell hb5
      have hz5 := hb5.size
      (try (simp [Region.binds, Note.phi] at hd))
      (try simp only [putsFrom, Act.put, qA, qB, qC, Nat.zero_add, Nat.reduceAdd])
      (try simp only [hd])
      revert hd
      ((try simp only [and_imp]); intros)
      go_wp2_with fail
      exact ⟨rfl, Below.refl _ _, rfl⟩
     ·(first | refine StepG.run rfl ?_ | refine StepG.on rfl rfl ?_)
      (try dsimp only)
      intro u w5 hb5 hd
      obtain ⟨hc5, hf5⟩ := bcell hb5
      have hz5 := hb5.size
      (try (simp [Region.binds, Note.phi] at hd))
      (try simp only [putsFrom, Act.put, qA, qB, qC, Nat.zero_add, Nat.reduceAdd])
      (try simp only [hd])
      revert hd
      ((try simp only [and_imp]); intros)
      go_wp2_with fail
      exact ⟨rfl, Below.refl _ _, rfl⟩
     ·(first | refine StepG.run rfl ?_ | refine StepG.on rfl rfl ?_)
      (try dsimp only)
      intro u w5 hb5 hd
      obtain ⟨hc5, hf5⟩ := bcell hb5
      have hz5 := hb5.size
      (try (simp [Region.binds, Note.phi] at hd))
      (try simp only [putsFrom, Act.put, qA, qB, qC, Nat.zero_add, Nat.reduceAdd])
      (try simp only [hd])
      revert hd
      ((try simp only [and_imp]); intros)
      go_wp2_with (go_at_call 76; (with_reducible refine (Hs1 _ (by exact below_auto)).mono ?_); rintro e wy ⟨vy, rfl, hpy, hby⟩)
      exact ⟨rfl, by exact below_auto, by assumption⟩
     ·(first | refine StepG.run rfl ?_ | refine StepG.on rfl rfl ?_)
      (try dsimp only)
      intro u w5 hb5 hd
      obtain ⟨hc5, hf5⟩ := bcell hb5
      have hz5 := hb5.size
      (try (simp [Region.binds, Note.phi] at hd))
      (try simp only [putsFrom, Act.put, qA, qB, qC, Nat.zero_add, Nat.reduceAdd])
      (try simp only [hd])
      revert hd
      ((try simp only [and_imp]); intros)
      go_wp2_with (go_at_call 90; (with_reducible refine (Hk1 _ _ (by assumption) (by exact below_auto)).mono ?_); rintro e wy ⟨rfl, hby⟩)
      exact ⟨rfl, by exact below_auto, rfl⟩
     ·(first | refine StepG.run rfl ?_ | refine StepG.on rfl rfl ?_)
      (try dsimp only)
      intro u w5 hb5 hd
      obtain ⟨hc5, hf5⟩ := bcell hb5
      have hz5 := hb5.size
      (try (simp [Region.binds, Note.phi] at hd))
      (try simp only [putsFrom, Act.put, qA, qB, qC, Nat.zero_add, Nat.reduceAdd])
      (try simp only [hd])
      revert hd
      ((try simp only [and_imp]); intros)
      go_wp2_with fail
      exact ⟨rfl, Below.refl _ _, rfl⟩
     ·(first | refine StepG.run rfl ?_ | refine StepG.on rfl rfl ?_)
      (try dsimp only)
      intro u w5 hb5 hd
      obtain ⟨hc5, hf5⟩ := bcell hb5
      have hz5 := hb5.size
      (try (simp [Region.binds, Note.phi] at hd))
      (try simp only [putsFrom, Act.put, qA, qB, qC, Nat.zero_add, Nat.reduceAdd])
      (try simp only [hd])
      revert hd
      ((try simp only [and_imp]); intros)
      go_wp2_with fail
      exact ⟨rfl, Below.refl _ _, rfl⟩
     ·(first | refine StepG.run rfl ?_ | refine StepG.on rfl rfl ?_)
      (try dsimp only)
      intro u w5 hb5 hd
      obtain ⟨hc5, hf5⟩ := bcell hb5
      have hz5 := hb5.size
      (try (simp [Region.binds, Note.phi] at hd))
      (try simp only [putsFrom, Act.put, qA, qB, qC, Nat.zero_add, Nat.reduceAdd])
      (try simp only [hd])
      revert hd
      ((try simp only [and_imp]); intros)
      go_wp2_with fail
      exact ⟨rfl, Below.refl _ _, rfl⟩
     ·(first | refine StepG.run rfl ?_ | refine StepG.on rfl rfl ?_)
      (try dsimp only)
      intro u w5 hb5 hd
      obtain ⟨hc5, hf5⟩ := bcell hb5
      have hz5 := hb5.size
      (try (simp [Region.binds, Note.phi] at hd))
      (try simp only [putsFrom, Act.put, qA, qB, qC, Nat.zero_add, Nat.reduceAdd])
      (try simp only [hd])
      revert hd
      ((try simp only [and_imp]); intros)
      go_wp2_with fail
      exact ⟨rfl, Below.refl _ _, rfl⟩
     ·(first | refine StepG.run rfl ?_ | refine StepG.on rfl rfl ?_)
      (try dsimp only)
      intro u w5 hb5 hd
      obtain ⟨hc5, hf5⟩ := bcell hb5
      have hz5 := hb5.size
      (try (simp [Region.binds, Note.phi] at hd))
      (try simp only [putsFrom, Act.put, qA, qB, qC, Nat.zero_add, Nat.reduceAdd])
      (try simp only [hd])
      revert hd
      ((try simp only [and_imp]); intros)
      go_wp2_with fail
      exact ⟨rfl, Below.refl _ _, rfl⟩
     ·(first | refine StepG.run rfl ?_ | refine StepG.on rfl rfl ?_)
      (try dsimp only)
      intro u w5 hb5 hd
      obtain ⟨hc5, hf5⟩ := bcell hb5
      have hz5 := hb5.size
      (try (simp [Region.binds, Note.phi] at hd))
      (try simp only [putsFrom, Act.put, qA, qB, qC, Nat.zero_add, Nat.reduceAdd])
      (try simp only [hd])
      revert hd
      ((try simp only [and_imp]); intros)
      go_wp2_with fail
      exact ⟨rfl, Below.refl _ _, rfl⟩
     ·(first | refine StepG.run rfl ?_ | refine StepG.on rfl rfl ?_)
      (try dsimp only)
      intro u w5 hb5 hd
      obtain ⟨hc5, hf5⟩ := bcell hb5
      have hz5 := hb5.size
      (try (simp [Region.binds, Note.phi] at hd))
      (try simp only [putsFrom, Act.put, qA, qB, qC, Nat.zero_add, Nat.reduceAdd])
      (try simp only [hd])
      revert hd
      ((try simp only [and_imp]); intros)
      go_wp2_with (go_at_call 76; (with_reducible refine (Hs2 _ (by exact below_auto)).mono ?_); rintro e wy ⟨vy, rfl, hpy, hby⟩)
      exact ⟨rfl, by exact below_auto, by assumption⟩
     ·(first | refine StepG.run rfl ?_ | refine StepG.on rfl rfl ?_)
      (try dsimp only)
      intro u w5 hb5 hd
      obtain ⟨hc5, hf5⟩ := bcell hb5
      have hz5 := hb5.size
      (try (simp [Region.binds, Note.phi] at hd))
      (try simp only [putsFrom, Act.put, qA, qB, qC, Nat.zero_add, Nat.reduceAdd])
      (try simp only [hd])
      revert hd
      ((try simp only [and_imp]); intros)
      go_wp2_with (go_at_call 90; (with_reducible refine (Hk2 _ _ (by assumption) (by exact below_auto)).mono ?_); rintro e wy ⟨rfl, hby⟩)
      exact ⟨rfl, by exact below_auto, rfl⟩
     ·(first | refine StepG.run rfl ?_ | refine StepG.on rfl rfl ?_)
      (try dsimp only)
      intro u w5 hb5 hd
      obtain ⟨hc5, hf5⟩ := bcell hb5
      have hz5 := hb5.size
      (try (simp [Region.binds, Note.phi] at hd))
      (try simp only [putsFrom, Act.put, qA, qB, qC, Nat.zero_add, Nat.reduceAdd])
      (try simp only [hd])
      revert hd
      ((try simp only [and_imp]); intros)
      go_wp2_with fail
      exact ⟨rfl, Below.refl _ _, rfl⟩
     ·(first | refine StepG.run rfl ?_ | refine StepG.on rfl rfl ?_)
      (try dsimp only)
      intro u w5 hb5 hd
      obtain ⟨hc5, hf5⟩ := bcell hb5
      have hz5 := hb5.size
      (try (simp [Region.binds, Note.phi] at hd))
      (try simp only [putsFrom, Act.put, qA, qB, qC, Nat.zero_add, Nat.reduceAdd])
      (try simp only [hd])
      revert hd
      ((try simp only [and_imp]); intros)
      go_wp2_with fail
      exact ⟨rfl, Below.refl _ _, rfl⟩
     ·(first | refine StepG.run rfl ?_ | refine StepG.on rfl rfl ?_)
      (try dsimp only)
      intro u w5 hb5 hd
      obtain ⟨hc5, hf5⟩ := bcell hb5
      have hz5 := hb5.size
      (try (simp [Region.binds, Note.phi] at hd))
      (try simp only [putsFrom, Act.put, qA, qB, qC, Nat.zero_add, Nat.reduceAdd])
      (try simp only [hd])
      revert hd
      ((try simp only [and_imp]); intros)
      go_wp2_with fail
      exact ⟨rfl, Below.refl _ _, rfl⟩
     ·exact StepG.off rfl rfl (by decide) rfl
     ·exact StepG.off rfl rfl (by decide) rfl
     ·exact StepG.off rfl rfl (by decide) rfl
     ·exact StepG.off rfl rfl (by decide) rfl
     ·exact StepG.off rfl rfl (by decide) rfl
     ·exact StepG.off rfl rfl (by decide) rfl
     ·exact StepG.off rfl rfl (by decide) rfl
     ·exact StepG.off rfl rfl (by decide) rfl
     ·(first | refine StepG.run rfl ?_ | refine StepG.on rfl rfl ?_)
      (try dsimp only)
      intro u w5 hb5 hd
      obtain ⟨hc5, hf5⟩ := bcell hb5
      have hz5 := hb5.size
      (try (simp [Region.binds, Note.phi] at hd))
      (try simp only [putsFrom, Act.put, qA, qB, qC, Nat.zero_add, Nat.reduceAdd])
      (try simp only [hd])
      revert hd
      ((try simp only [and_imp]); intros)
      go_wp2_with fail
      exact ⟨rfl, Below.refl _ _, rfl⟩
    ·intro u w5 hb5 hph hap
     obtain ⟨hc5, hf5⟩ := bcell hb5
     have hz5 := hb5.size
     have hp0 := hph 0 (by simp)
     have hp1 := hph 1 (by simp)
     have hp2 := hph 2 (by simp)
     have hp3 := hph 3 (by simp)
     have hp4 := hph 4 (by simp)
     have hp5 := hph 5 (by simp)
     have hp6 := hph 6 (by simp)
     have hp7 := hph 7 (by simp)
     have hp8 := hph 8 (by simp)
     have hp9 := hph 9 (by simp)
     have hp10 := hph 10 (by simp)
     have hp11 := hph 11 (by simp)
     have hp12 := hph 12 (by simp)
     have hp13 := hph 13 (by simp)
     have hp14 := hph 14 (by simp)
     have hp15 := hph 15 (by simp)
     have hp16 := hph 16 (by simp)
     have hp17 := hph 17 (by simp)
     have hp18 := hph 18 (by simp)
     have hp19 := hph 19 (by simp)
     have hp20 := hph 20 (by simp)
     have hp21 := hph 21 (by simp)
     have hp22 := hph 22 (by simp)
     have hp23 := hph 23 (by simp)
     have hp24 := hph 24 (by simp)
     have hp25 := hph 25 (by simp)
     clear hph hap
     simp only [List.length_cons, List.length_nil, List.take_succ_cons, List.take_zero, List.drop_succ_cons, List.drop_zero, putsFrom, Act.put, qA, qB, qC, Nat.zero_add, Nat.reduceAdd]
     generalize u 0 = u0 at *
     cases hp0
     generalize u 1 = u1 at *
     cases hp1
     generalize u 2 = u2 at *
     cases hp2
     generalize u 3 = u3 at *
     cases hp3
     generalize u 4 = u4 at *
     have hp4 : (FloatsRow L1) u4 w5 := hp4
     generalize u 5 = u5 at *
     cases hp5
     generalize u 6 = u6 at *
     cases hp6
     generalize u 7 = u7 at *
     cases hp7
     generalize u 8 = u8 at *
     cases hp8
     generalize u 9 = u9 at *
     cases hp9
     generalize u 10 = u10 at *
     cases hp10
     generalize u 11 = u11 at *
     cases hp11
     generalize u 12 = u12 at *
     have hp12 : (FloatsRow L3) u12 w5 := hp12
     generalize u 13 = u13 at *
     cases hp13
     generalize u 14 = u14 at *
     cases hp14
     generalize u 15 = u15 at *
     cases hp15
     generalize u 16 = u16 at *
     cases hp16
     generalize u 17 = u17 at *
     cases hp17
     generalize u 18 = u18 at *
     cases hp18
     generalize u 19 = u19 at *
     cases hp19
     generalize u 20 = u20 at *
     cases hp20
     generalize u 21 = u21 at *
     cases hp21
     generalize u 22 = u22 at *
     cases hp22
     generalize u 23 = u23 at *
     cases hp23
     generalize u 24 = u24 at *
     cases hp24
     generalize u 25 = u25 at *
     cases hp25
     clear u
     go_wp2_with fail
     go_ret
     exact ⟨rfl, by exact below_auto⟩
   cases o3
   ·have hV' : V = 42 := by rw [hV]; rfl
    subst hV'
    clear hV
    refine wp_region_notesG [Note.val (.pointer (some ⟨w.heap.size, 3, none⟩)), Note.val (.slice ra n1 rc), Note.val (.pointer (some ⟨w.heap.size, 3, none⟩)), Note.val (.slice ra n1 rc), Note.fits (FloatsRow L1) (fun _ _ _ h hb => h.below hb), Note.val (.bool true), Note.val (.bool false), Note.val (.bool false), Note.val (.pointer (some ⟨w.heap.size, 5, none⟩)), Note.val (.slice wa n3 wc), Note.val (.pointer (some ⟨w.heap.size, 5, none⟩)), Note.val (.slice wa n3 wc), Note.fits (FloatsRow L3) (fun _ _ _ h hb => h.below hb), Note.val (.bool true), Note.val (.bool false), Note.val (.bool false), Note.val (.bool false), Note.val (.pointer (some ⟨w.heap.size, 4, none⟩)), Note.val (.slice sa k sc), Note.val (.pointer (some ⟨w.heap.size, 4, none⟩)), Note.val (.slice sa k sc), Note.fits (RangesRow G) (fun _ _ _ h hb => h.below hb), Note.fits (FormsRow G) (fun _ _ _ h hb => h.below hb), Note.val (.bool false), Note.val (.bool true), Note.val (.bool true)] rfl (by kernel_rfl) (by kernel_rfl) ?_ ?_
    ·simp only [List.length_cons, List.length_nil, Nat.reduceAdd, List.take_succ_cons, List.take_zero, StepsG, List.nil_append, List.cons_append]
     refine ⟨?_, ?_, ?_, ?_, ?_, ?_, ?_, ?_, ?_, ?_, ?_, ?_, ?_, ?_, ?_, ?_, ?_, ?_, ?_, ?_, ?_, ?_, ?_, ?_, ?_, ?_, trivial⟩
     ·(first | refine StepG.run rfl ?_ | refine StepG.on rfl rfl ?_)
      (try dsimp only)
      intro u w5 hb5 hd
      obtain ⟨hc5, hf5⟩ := bcell hb5
      have hz5 := hb5.size
      (try (simp [Region.binds, Note.phi] at hd))
      (try simp only [putsFrom, Act.put, qA, qB, qC, Nat.zero_add, Nat.reduceAdd])
      (try simp only [hd])
      revert hd
      ((try simp only [and_imp]); intros)
      go_wp2_with fail
      exact ⟨rfl, Below.refl _ _, rfl⟩
     ·(first | refine StepG.run rfl ?_ | refine StepG.on rfl rfl ?_)
      (try dsimp only)
      intro u w5 hb5 hd
      obtain ⟨hc5, hf5⟩ := bcell hb5
      have hz5 := hb5.size
      (try (simp [Region.binds, Note.phi] at hd))
      (try simp only [putsFrom, Act.put, qA, qB, qC, Nat.zero_add, Nat.reduceAdd])
      (try simp only [hd])
      revert hd
      ((try simp only [and_imp]); intros)
      go_wp2_with fail
      exact ⟨rfl, Below.refl _ _, rfl⟩
     ·(first | refine StepG.run rfl ?_ | refine StepG.on rfl rfl ?_)
      (try dsimp only)
      intro u w5 hb5 hd
      obtain ⟨hc5, hf5⟩ := bcell hb5
      have hz5 := hb5.size
      (try (simp [Region.binds, Note.phi] at hd))
      (try simp only [putsFrom, Act.put, qA, qB, qC, Nat.zero_add, Nat.reduceAdd])
      (try simp only [hd])
      revert hd
      ((try simp only [and_imp]); intros)
      go_wp2_with fail
      exact ⟨rfl, Below.refl _ _, rfl⟩
     ·(first | refine StepG.run rfl ?_ | refine StepG.on rfl rfl ?_)
      (try dsimp only)
      intro u w5 hb5 hd
      obtain ⟨hc5, hf5⟩ := bcell hb5
      have hz5 := hb5.size
      (try (simp [Region.binds, Note.phi] at hd))
      (try simp only [putsFrom, Act.put, qA, qB, qC, Nat.zero_add, Nat.reduceAdd])
      (try simp only [hd])
      revert hd
      ((try simp only [and_imp]); intros)
      go_wp2_with fail
      exact ⟨rfl, Below.refl _ _, rfl⟩
     ·(first | refine StepG.run rfl ?_ | refine StepG.on rfl rfl ?_)
      (try dsimp only)
      intro u w5 hb5 hd
      obtain ⟨hc5, hf5⟩ := bcell hb5
      have hz5 := hb5.size
      (try (simp [Region.binds, Note.phi] at hd))
      (try simp only [putsFrom, Act.put, qA, qB, qC, Nat.zero_add, Nat.reduceAdd])
      (try simp only [hd])
      revert hd
      ((try simp only [and_imp]); intros)
      go_wp2_with (go_at_call 76; (with_reducible refine (Hs1 _ (by exact below_auto)).mono ?_); rintro e wy ⟨vy, rfl, hpy, hby⟩)
      exact ⟨rfl, by exact below_auto, by assumption⟩
     ·(first | refine StepG.run rfl ?_ | refine StepG.on rfl rfl ?_)
      (try dsimp only)
      intro u w5 hb5 hd
      obtain ⟨hc5, hf5⟩ := bcell hb5
      have hz5 := hb5.size
      (try (simp [Region.binds, Note.phi] at hd))
      (try simp only [putsFrom, Act.put, qA, qB, qC, Nat.zero_add, Nat.reduceAdd])
      (try simp only [hd])
      revert hd
      ((try simp only [and_imp]); intros)
      go_wp2_with (go_at_call 90; (with_reducible refine (Hk1 _ _ (by assumption) (by exact below_auto)).mono ?_); rintro e wy ⟨rfl, hby⟩)
      exact ⟨rfl, by exact below_auto, rfl⟩
     ·(first | refine StepG.run rfl ?_ | refine StepG.on rfl rfl ?_)
      (try dsimp only)
      intro u w5 hb5 hd
      obtain ⟨hc5, hf5⟩ := bcell hb5
      have hz5 := hb5.size
      (try (simp [Region.binds, Note.phi] at hd))
      (try simp only [putsFrom, Act.put, qA, qB, qC, Nat.zero_add, Nat.reduceAdd])
      (try simp only [hd])
      revert hd
      ((try simp only [and_imp]); intros)
      go_wp2_with fail
      exact ⟨rfl, Below.refl _ _, rfl⟩
     ·(first | refine StepG.run rfl ?_ | refine StepG.on rfl rfl ?_)
      (try dsimp only)
      intro u w5 hb5 hd
      obtain ⟨hc5, hf5⟩ := bcell hb5
      have hz5 := hb5.size
      (try (simp [Region.binds, Note.phi] at hd))
      (try simp only [putsFrom, Act.put, qA, qB, qC, Nat.zero_add, Nat.reduceAdd])
      (try simp only [hd])
      revert hd
      ((try simp only [and_imp]); intros)
      go_wp2_with fail
      exact ⟨rfl, Below.refl _ _, rfl⟩
     ·(first | refine StepG.run rfl ?_ | refine StepG.on rfl rfl ?_)
      (try dsimp only)
      intro u w5 hb5 hd
      obtain ⟨hc5, hf5⟩ := bcell hb5
      have hz5 := hb5.size
      (try (simp [Region.binds, Note.phi] at hd))
      (try simp only [putsFrom, Act.put, qA, qB, qC, Nat.zero_add, Nat.reduceAdd])
      (try simp only [hd])
      revert hd
      ((try simp only [and_imp]); intros)
      go_wp2_with fail
      exact ⟨rfl, Below.refl _ _, rfl⟩
     ·(first | refine StepG.run rfl ?_ | refine StepG.on rfl rfl ?_)
      (try dsimp only)
      intro u w5 hb5 hd
      obtain ⟨hc5, hf5⟩ := bcell hb5
      have hz5 := hb5.size
      (try (simp [Region.binds, Note.phi] at hd))
      (try simp only [putsFrom, Act.put, qA, qB, qC, Nat.zero_add, Nat.reduceAdd])
      (try simp only [hd])
      revert hd
      ((try simp only [and_imp]); intros)
      go_wp2_with fail
      exact ⟨rfl, Below.refl _ _, rfl⟩
     ·(first | refine StepG.run rfl ?_ | refine StepG.on rfl rfl ?_)
      (try dsimp only)
      intro u w5 hb5 hd
      obtain ⟨hc5, hf5⟩ := bcell hb5
      have hz5 := hb5.size
      (try (simp [Region.binds, Note.phi] at hd))
      (try simp only [putsFrom, Act.put, qA, qB, qC, Nat.zero_add, Nat.reduceAdd])
      (try simp only [hd])
      revert hd
      ((try simp only [and_imp]); intros)
      go_wp2_with fail
      exact ⟨rfl, Below.refl _ _, rfl⟩
     ·(first | refine StepG.run rfl ?_ | refine StepG.on rfl rfl ?_)
      (try dsimp only)
      intro u w5 hb5 hd
      obtain ⟨hc5, hf5⟩ := bcell hb5
      have hz5 := hb5.size
      (try (simp [Region.binds, Note.phi] at hd))
      (try simp only [putsFrom, Act.put, qA, qB, qC, Nat.zero_add, Nat.reduceAdd])
      (try simp only [hd])
      revert hd
      ((try simp only [and_imp]); intros)
      go_wp2_with fail
      exact ⟨rfl, Below.refl _ _, rfl⟩
     ·(first | refine StepG.run rfl ?_ | refine StepG.on rfl rfl ?_)
      (try dsimp only)
      intro u w5 hb5 hd
      obtain ⟨hc5, hf5⟩ := bcell hb5
      have hz5 := hb5.size
      (try (simp [Region.binds, Note.phi] at hd))
      (try simp only [putsFrom, Act.put, qA, qB, qC, Nat.zero_add, Nat.reduceAdd])
      (try simp only [hd])
      revert hd
      ((try simp only [and_imp]); intros)
      go_wp2_with (go_at_call 76; (with_reducible refine (Hs2 _ (by exact below_auto)).mono ?_); rintro e wy ⟨vy, rfl, hpy, hby⟩)
      exact ⟨rfl, by exact below_auto, by assumption⟩
     ·(first | refine StepG.run rfl ?_ | refine StepG.on rfl rfl ?_)
      (try dsimp only)
      intro u w5 hb5 hd
      obtain ⟨hc5, hf5⟩ := bcell hb5
      have hz5 := hb5.size
      (try (simp [Region.binds, Note.phi] at hd))
      (try simp only [putsFrom, Act.put, qA, qB, qC, Nat.zero_add, Nat.reduceAdd])
      (try simp only [hd])
      revert hd
      ((try simp only [and_imp]); intros)
      go_wp2_with (go_at_call 90; (with_reducible refine (Hk2 _ _ (by assumption) (by exact below_auto)).mono ?_); rintro e wy ⟨rfl, hby⟩)
      exact ⟨rfl, by exact below_auto, rfl⟩
     ·(first | refine StepG.run rfl ?_ | refine StepG.on rfl rfl ?_)
      (try dsimp only)
      intro u w5 hb5 hd
      obtain ⟨hc5, hf5⟩ := bcell hb5
      have hz5 := hb5.size
      (try (simp [Region.binds, Note.phi] at hd))
      (try simp only [putsFrom, Act.put, qA, qB, qC, Nat.zero_add, Nat.reduceAdd])
      (try simp only [hd])
      revert hd
      ((try simp only [and_imp]); intros)
      go_wp2_with fail
      exact ⟨rfl, Below.refl _ _, rfl⟩
     ·(first | refine StepG.run rfl ?_ | refine StepG.on rfl rfl ?_)
      (try dsimp only)
      intro u w5 hb5 hd
      obtain ⟨hc5, hf5⟩ := bcell hb5
      have hz5 := hb5.size
      (try (simp [Region.binds, Note.phi] at hd))
      (try simp only [putsFrom, Act.put, qA, qB, qC, Nat.zero_add, Nat.reduceAdd])
      (try simp only [hd])
      revert hd
      ((try simp only [and_imp]); intros)
      go_wp2_with fail
      exact ⟨rfl, Below.refl _ _, rfl⟩
     ·(first | refine StepG.run rfl ?_ | refine StepG.on rfl rfl ?_)
      (try dsimp only)
      intro u w5 hb5 hd
      obtain ⟨hc5, hf5⟩ := bcell hb5
      have hz5 := hb5.size
      (try (simp [Region.binds, Note.phi] at hd))
      (try simp only [putsFrom, Act.put, qA, qB, qC, Nat.zero_add, Nat.reduceAdd])
      (try simp only [hd])
      revert hd
      ((try simp only [and_imp]); intros)
      go_wp2_with fail
      exact ⟨rfl, Below.refl _ _, rfl⟩
     ·(first | refine StepG.run rfl ?_ | refine StepG.on rfl rfl ?_)
      (try dsimp only)
      intro u w5 hb5 hd
      obtain ⟨hc5, hf5⟩ := bcell hb5
      have hz5 := hb5.size
      (try (simp [Region.binds, Note.phi] at hd))
      (try simp only [putsFrom, Act.put, qA, qB, qC, Nat.zero_add, Nat.reduceAdd])
      (try simp only [hd])
      revert hd
      ((try simp only [and_imp]); intros)
      go_wp2_with fail
      exact ⟨rfl, Below.refl _ _, rfl⟩
     ·(first | refine StepG.run rfl ?_ | refine StepG.on rfl rfl ?_)
      (try dsimp only)
      intro u w5 hb5 hd
      obtain ⟨hc5, hf5⟩ := bcell hb5
      have hz5 := hb5.size
      (try (simp [Region.binds, Note.phi] at hd))
      (try simp only [putsFrom, Act.put, qA, qB, qC, Nat.zero_add, Nat.reduceAdd])
      (try simp only [hd])
      revert hd
      ((try simp only [and_imp]); intros)
      go_wp2_with fail
      exact ⟨rfl, Below.refl _ _, rfl⟩
     ·(first | refine StepG.run rfl ?_ | refine StepG.on rfl rfl ?_)
      (try dsimp only)
      intro u w5 hb5 hd
      obtain ⟨hc5, hf5⟩ := bcell hb5
      have hz5 := hb5.size
      (try (simp [Region.binds, Note.phi] at hd))
      (try simp only [putsFrom, Act.put, qA, qB, qC, Nat.zero_add, Nat.reduceAdd])
      (try simp only [hd])
      revert hd
      ((try simp only [and_imp]); intros)
      go_wp2_with fail
      exact ⟨rfl, Below.refl _ _, rfl⟩
     ·(first | refine StepG.run rfl ?_ | refine StepG.on rfl rfl ?_)
      (try dsimp only)
      intro u w5 hb5 hd
      obtain ⟨hc5, hf5⟩ := bcell hb5
      have hz5 := hb5.size
      (try (simp [Region.binds, Note.phi] at hd))
      (try simp only [putsFrom, Act.put, qA, qB, qC, Nat.zero_add, Nat.reduceAdd])
      (try simp only [hd])
      revert hd
      ((try simp only [and_imp]); intros)
      go_wp2_with fail
      exact ⟨rfl, Below.refl _ _, rfl⟩
     ·(first | refine StepG.run rfl ?_ | refine StepG.on rfl rfl ?_)
      (try dsimp only)
      intro u w5 hb5 hd
      obtain ⟨hc5, hf5⟩ := bcell hb5
      have hz5 := hb5.size
      (try (simp [Region.binds, Note.phi] at hd))
      (try simp only [putsFrom, Act.put, qA, qB, qC, Nat.zero_add, Nat.reduceAdd])
      (try simp only [hd])
      revert hd
      ((try simp only [and_imp]); intros)
      go_wp2_with (go_at_call 78; (with_reducible refine (HrN _ (by exact below_auto)).mono ?_); rintro e wy ⟨vy, rfl, hpy, hby⟩)
      exact ⟨rfl, by exact below_auto, by assumption⟩
     ·(first | refine StepG.run rfl ?_ | refine StepG.on rfl rfl ?_)
      (try dsimp only)
      intro u w5 hb5 hd
      obtain ⟨hc5, hf5⟩ := bcell hb5
      have hz5 := hb5.size
      (try (simp [Region.binds, Note.phi] at hd))
      (try simp only [putsFrom, Act.put, qA, qB, qC, Nat.zero_add, Nat.reduceAdd])
      (try simp only [hd])
      revert hd
      ((try simp only [and_imp]); intros)
      go_wp2_with (go_at_call 77; (with_reducible refine (HrS _ _ (by assumption)).mono ?_); rintro e wy ⟨vy, rfl, hpy, hby⟩)
      exact ⟨rfl, by exact below_auto, by assumption⟩
     ·(first | refine StepG.run rfl ?_ | refine StepG.on rfl rfl ?_)
      (try dsimp only)
      intro u w5 hb5 hd
      obtain ⟨hc5, hf5⟩ := bcell hb5
      have hz5 := hb5.size
      (try (simp [Region.binds, Note.phi] at hd))
      (try simp only [putsFrom, Act.put, qA, qB, qC, Nat.zero_add, Nat.reduceAdd])
      (try simp only [hd])
      revert hd
      ((try simp only [and_imp]); intros)
      go_wp2_with (go_at_call 91; (with_reducible refine (HrE _ _ (by assumption) (by exact below_auto)).mono ?_); rintro e wy ⟨rfl, hby⟩)
      exact ⟨rfl, by exact below_auto, rfl⟩
     ·(first | refine StepG.run rfl ?_ | refine StepG.on rfl rfl ?_)
      (try dsimp only)
      intro u w5 hb5 hd
      obtain ⟨hc5, hf5⟩ := bcell hb5
      have hz5 := hb5.size
      (try (simp [Region.binds, Note.phi] at hd))
      (try simp only [putsFrom, Act.put, qA, qB, qC, Nat.zero_add, Nat.reduceAdd])
      (try simp only [hd])
      revert hd
      ((try simp only [and_imp]); intros)
      go_wp2_with fail
      exact ⟨rfl, Below.refl _ _, rfl⟩
     ·(first | refine StepG.run rfl ?_ | refine StepG.on rfl rfl ?_)
      (try dsimp only)
      intro u w5 hb5 hd
      obtain ⟨hc5, hf5⟩ := bcell hb5
      have hz5 := hb5.size
      (try (simp [Region.binds, Note.phi] at hd))
      (try simp only [putsFrom, Act.put, qA, qB, qC, Nat.zero_add, Nat.reduceAdd])
      (try simp only [hd])
      revert hd
      ((try simp only [and_imp]); intros)
      go_wp2_with fail
      exact ⟨rfl, Below.refl _ _, rfl⟩
    ·intro u w5 hb5 hph hap
     obtain ⟨hc5, hf5⟩ := bcell hb5
     have hz5 := hb5.size
     have hp0 := hph 0 (by simp)
     have hp1 := hph 1 (by simp)
     have hp2 := hph 2 (by simp)
     have hp3 := hph 3 (by simp)
     have hp4 := hph 4 (by simp)
     have hp5 := hph 5 (by simp)
     have hp6 := hph 6 (by simp)
     have hp7 := hph 7 (by simp)
     have hp8 := hph 8 (by simp)
     have hp9 := hph 9 (by simp)
     have hp10 := hph 10 (by simp)
     have hp11 := hph 11 (by simp)
     have hp12 := hph 12 (by simp)
     have hp13 := hph 13 (by simp)
     have hp14 := hph 14 (by simp)
     have hp15 := hph 15 (by simp)
     have hp16 := hph 16 (by simp)
     have hp17 := hph 17 (by simp)
     have hp18 := hph 18 (by simp)
     have hp19 := hph 19 (by simp)
     have hp20 := hph 20 (by simp)
     have hp21 := hph 21 (by simp)
     have hp22 := hph 22 (by simp)
     have hp23 := hph 23 (by simp)
     have hp24 := hph 24 (by simp)
     have hp25 := hph 25 (by simp)
     clear hph hap
     simp only [List.length_cons, List.length_nil, List.take_succ_cons, List.take_zero, List.drop_succ_cons, List.drop_zero, putsFrom, Act.put, qA, qB, qC, Nat.zero_add, Nat.reduceAdd]
     generalize u 0 = u0 at *
     cases hp0
     generalize u 1 = u1 at *
     cases hp1
     generalize u 2 = u2 at *
     cases hp2
     generalize u 3 = u3 at *
     cases hp3
     generalize u 4 = u4 at *
     have hp4 : (FloatsRow L1) u4 w5 := hp4
     generalize u 5 = u5 at *
     cases hp5
     generalize u 6 = u6 at *
     cases hp6
     generalize u 7 = u7 at *
     cases hp7
     generalize u 8 = u8 at *
     cases hp8
     generalize u 9 = u9 at *
     cases hp9
     generalize u 10 = u10 at *
     cases hp10
     generalize u 11 = u11 at *
     cases hp11
     generalize u 12 = u12 at *
     have hp12 : (FloatsRow L3) u12 w5 := hp12
     generalize u 13 = u13 at *
     cases hp13
     generalize u 14 = u14 at *
     cases hp14
     generalize u 15 = u15 at *
     cases hp15
     generalize u 16 = u16 at *
     cases hp16
     generalize u 17 = u17 at *
     cases hp17
     generalize u 18 = u18 at *
     cases hp18
     generalize u 19 = u19 at *
     cases hp19
     generalize u 20 = u20 at *
     cases hp20
     generalize u 21 = u21 at *
     have hp21 : (RangesRow G) u21 w5 := hp21
     generalize u 22 = u22 at *
     have hp22 : (FormsRow G) u22 w5 := hp22
     generalize u 23 = u23 at *
     cases hp23
     generalize u 24 = u24 at *
     cases hp24
     generalize u 25 = u25 at *
     cases hp25
     clear u
     go_wp2_with fail
     go_ret
     exact ⟨rfl, by exact below_auto⟩
   ·have hV' : V = 0 := by rw [hV]; rfl
    subst hV'
    clear hV
    refine wp_region_notesG [Note.val (.pointer (some ⟨w.heap.size, 3, none⟩)), Note.val (.slice ra n1 rc), Note.val (.pointer (some ⟨w.heap.size, 3, none⟩)), Note.val (.slice ra n1 rc), Note.fits (FloatsRow L1) (fun _ _ _ h hb => h.below hb), Note.val (.bool true), Note.val (.bool false), Note.val (.bool false), Note.val (.pointer (some ⟨w.heap.size, 5, none⟩)), Note.val (.slice wa n3 wc), Note.val (.pointer (some ⟨w.heap.size, 5, none⟩)), Note.val (.slice wa n3 wc), Note.fits (FloatsRow L3) (fun _ _ _ h hb => h.below hb), Note.val (.bool true), Note.val (.bool false), Note.val (.bool false), Note.val (.bool false), Note.val (.pointer (some ⟨w.heap.size, 4, none⟩)), Note.val (.slice sa k sc), Note.val (.pointer (some ⟨w.heap.size, 4, none⟩)), Note.val (.slice sa k sc), Note.fits (RangesRow G) (fun _ _ _ h hb => h.below hb), Note.fits (FormsRow G) (fun _ _ _ h hb => h.below hb), Note.val (.bool true), Note.val (.bool false), Note.val (.bool false)] rfl (by kernel_rfl) (by kernel_rfl) ?_ ?_
    ·simp only [List.length_cons, List.length_nil, Nat.reduceAdd, List.take_succ_cons, List.take_zero, StepsG, List.nil_append, List.cons_append]
     refine ⟨?_, ?_, ?_, ?_, ?_, ?_, ?_, ?_, ?_, ?_, ?_, ?_, ?_, ?_, ?_, ?_, ?_, ?_, ?_, ?_, ?_, ?_, ?_, ?_, ?_, ?_, trivial⟩
     ·(first | refine StepG.run rfl ?_ | refine StepG.on rfl rfl ?_)
      (try dsimp only)
      intro u w5 hb5 hd
      obtain ⟨hc5, hf5⟩ := bcell hb5
      have hz5 := hb5.size
      (try (simp [Region.binds, Note.phi] at hd))
      (try simp only [putsFrom, Act.put, qA, qB, qC, Nat.zero_add, Nat.reduceAdd])
      (try simp only [hd])
      revert hd
      ((try simp only [and_imp]); intros)
      go_wp2_with fail
      exact ⟨rfl, Below.refl _ _, rfl⟩
     ·(first | refine StepG.run rfl ?_ | refine StepG.on rfl rfl ?_)
      (try dsimp only)
      intro u w5 hb5 hd
      obtain ⟨hc5, hf5⟩ := bcell hb5
      have hz5 := hb5.size
      (try (simp [Region.binds, Note.phi] at hd))
      (try simp only [putsFrom, Act.put, qA, qB, qC, Nat.zero_add, Nat.reduceAdd])
      (try simp only [hd])
      revert hd
      ((try simp only [and_imp]); intros)
      go_wp2_with fail
      exact ⟨rfl, Below.refl _ _, rfl⟩
     ·(first | refine StepG.run rfl ?_ | refine StepG.on rfl rfl ?_)
      (try dsimp only)
      intro u w5 hb5 hd
      obtain ⟨hc5, hf5⟩ := bcell hb5
      have hz5 := hb5.size
      (try (simp [Region.binds, Note.phi] at hd))
      (try simp only [putsFrom, Act.put, qA, qB, qC, Nat.zero_add, Nat.reduceAdd])
      (try simp only [hd])
      revert hd
      ((try simp only [and_imp]); intros)
      go_wp2_with fail
      exact ⟨rfl, Below.refl _ _, rfl⟩
     ·(first | refine StepG.run rfl ?_ | refine StepG.on rfl rfl ?_)
      (try dsimp only)
      intro u w5 hb5 hd
      obtain ⟨hc5, hf5⟩ := bcell hb5
      have hz5 := hb5.size
      (try (simp [Region.binds, Note.phi] at hd))
      (try simp only [putsFrom, Act.put, qA, qB, qC, Nat.zero_add, Nat.reduceAdd])
      (try simp only [hd])
      revert hd
      ((try simp only [and_imp]); intros)
      go_wp2_with fail
      exact ⟨rfl, Below.refl _ _, rfl⟩
     ·(first | refine StepG.run rfl ?_ | refine StepG.on rfl rfl ?_)
      (try dsimp only)
      intro u w5 hb5 hd
      obtain ⟨hc5, hf5⟩ := bcell hb5
      have hz5 := hb5.size
      (try (simp [Region.binds, Note.phi] at hd))
      (try simp only [putsFrom, Act.put, qA, qB, qC, Nat.zero_add, Nat.reduceAdd])
      (try simp only [hd])
      revert hd
      ((try simp only [and_imp]); intros)
      go_wp2_with (go_at_call 76; (with_reducible refine (Hs1 _ (by exact below_auto)).mono ?_); rintro e wy ⟨vy, rfl, hpy, hby⟩)
      exact ⟨rfl, by exact below_auto, by assumption⟩
     ·(first | refine StepG.run rfl ?_ | refine StepG.on rfl rfl ?_)
      (try dsimp only)
      intro u w5 hb5 hd
      obtain ⟨hc5, hf5⟩ := bcell hb5
      have hz5 := hb5.size
      (try (simp [Region.binds, Note.phi] at hd))
      (try simp only [putsFrom, Act.put, qA, qB, qC, Nat.zero_add, Nat.reduceAdd])
      (try simp only [hd])
      revert hd
      ((try simp only [and_imp]); intros)
      go_wp2_with (go_at_call 90; (with_reducible refine (Hk1 _ _ (by assumption) (by exact below_auto)).mono ?_); rintro e wy ⟨rfl, hby⟩)
      exact ⟨rfl, by exact below_auto, rfl⟩
     ·(first | refine StepG.run rfl ?_ | refine StepG.on rfl rfl ?_)
      (try dsimp only)
      intro u w5 hb5 hd
      obtain ⟨hc5, hf5⟩ := bcell hb5
      have hz5 := hb5.size
      (try (simp [Region.binds, Note.phi] at hd))
      (try simp only [putsFrom, Act.put, qA, qB, qC, Nat.zero_add, Nat.reduceAdd])
      (try simp only [hd])
      revert hd
      ((try simp only [and_imp]); intros)
      go_wp2_with fail
      exact ⟨rfl, Below.refl _ _, rfl⟩
     ·(first | refine StepG.run rfl ?_ | refine StepG.on rfl rfl ?_)
      (try dsimp only)
      intro u w5 hb5 hd
      obtain ⟨hc5, hf5⟩ := bcell hb5
      have hz5 := hb5.size
      (try (simp [Region.binds, Note.phi] at hd))
      (try simp only [putsFrom, Act.put, qA, qB, qC, Nat.zero_add, Nat.reduceAdd])
      (try simp only [hd])
      revert hd
      ((try simp only [and_imp]); intros)
      go_wp2_with fail
      exact ⟨rfl, Below.refl _ _, rfl⟩
     ·(first | refine StepG.run rfl ?_ | refine StepG.on rfl rfl ?_)
      (try dsimp only)
      intro u w5 hb5 hd
      obtain ⟨hc5, hf5⟩ := bcell hb5
      have hz5 := hb5.size
      (try (simp [Region.binds, Note.phi] at hd))
      (try simp only [putsFrom, Act.put, qA, qB, qC, Nat.zero_add, Nat.reduceAdd])
      (try simp only [hd])
      revert hd
      ((try simp only [and_imp]); intros)
      go_wp2_with fail
      exact ⟨rfl, Below.refl _ _, rfl⟩
     ·(first | refine StepG.run rfl ?_ | refine StepG.on rfl rfl ?_)
      (try dsimp only)
      intro u w5 hb5 hd
      obtain ⟨hc5, hf5⟩ := bcell hb5
      have hz5 := hb5.size
      (try (simp [Region.binds, Note.phi] at hd))
      (try simp only [putsFrom, Act.put, qA, qB, qC, Nat.zero_add, Nat.reduceAdd])
      (try simp only [hd])
      revert hd
      ((try simp only [and_imp]); intros)
      go_wp2_with fail
      exact ⟨rfl, Below.refl _ _, rfl⟩
     ·(first | refine StepG.run rfl ?_ | refine StepG.on rfl rfl ?_)
      (try dsimp only)
      intro u w5 hb5 hd
      obtain ⟨hc5, hf5⟩ := bcell hb5
      have hz5 := hb5.size
      (try (simp [Region.binds, Note.phi] at hd))
      (try simp only [putsFrom, Act.put, qA, qB, qC, Nat.zero_add, Nat.reduceAdd])
      (try simp only [hd])
      revert hd
      ((try simp only [and_imp]); intros)
      go_wp2_with fail
      exact ⟨rfl, Below.refl _ _, rfl⟩
     ·(first | refine StepG.run rfl ?_ | refine StepG.on rfl rfl ?_)
      (try dsimp only)
      intro u w5 hb5 hd
      obtain ⟨hc5, hf5⟩ := bcell hb5
      have hz5 := hb5.size
      (try (simp [Region.binds, Note.phi] at hd))
      (try simp only [putsFrom, Act.put, qA, qB, qC, Nat.zero_add, Nat.reduceAdd])
      (try simp only [hd])
      revert hd
      ((try simp only [and_imp]); intros)
      go_wp2_with fail
      exact ⟨rfl, Below.refl _ _, rfl⟩
     ·(first | refine StepG.run rfl ?_ | refine StepG.on rfl rfl ?_)
      (try dsimp only)
      intro u w5 hb5 hd
      obtain ⟨hc5, hf5⟩ := bcell hb5
      have hz5 := hb5.size
      (try (simp [Region.binds, Note.phi] at hd))
      (try simp only [putsFrom, Act.put, qA, qB, qC, Nat.zero_add, Nat.reduceAdd])
      (try simp only [hd])
      revert hd
      ((try simp only [and_imp]); intros)
      go_wp2_with (go_at_call 76; (with_reducible refine (Hs2 _ (by exact below_auto)).mono ?_); rintro e wy ⟨vy, rfl, hpy, hby⟩)
      exact ⟨rfl, by exact below_auto, by assumption⟩
     ·(first | refine StepG.run rfl ?_ | refine StepG.on rfl rfl ?_)
      (try dsimp only)
      intro u w5 hb5 hd
      obtain ⟨hc5, hf5⟩ := bcell hb5
      have hz5 := hb5.size
      (try (simp [Region.binds, Note.phi] at hd))
      (try simp only [putsFrom, Act.put, qA, qB, qC, Nat.zero_add, Nat.reduceAdd])
      (try simp only [hd])
      revert hd
      ((try simp only [and_imp]); intros)
      go_wp2_with (go_at_call 90; (with_reducible refine (Hk2 _ _ (by assumption) (by exact below_auto)).mono ?_); rintro e wy ⟨rfl, hby⟩)
      exact ⟨rfl, by exact below_auto, rfl⟩
     ·(first | refine StepG.run rfl ?_ | refine StepG.on rfl rfl ?_)
      (try dsimp only)
      intro u w5 hb5 hd
      obtain ⟨hc5, hf5⟩ := bcell hb5
      have hz5 := hb5.size
      (try (simp [Region.binds, Note.phi] at hd))
      (try simp only [putsFrom, Act.put, qA, qB, qC, Nat.zero_add, Nat.reduceAdd])
      (try simp only [hd])
      revert hd
      ((try simp only [and_imp]); intros)
      go_wp2_with fail
      exact ⟨rfl, Below.refl _ _, rfl⟩
     ·(first | refine StepG.run rfl ?_ | refine StepG.on rfl rfl ?_)
      (try dsimp only)
      intro u w5 hb5 hd
      obtain ⟨hc5, hf5⟩ := bcell hb5
      have hz5 := hb5.size
      (try (simp [Region.binds, Note.phi] at hd))
      (try simp only [putsFrom, Act.put, qA, qB, qC, Nat.zero_add, Nat.reduceAdd])
      (try simp only [hd])
      revert hd
      ((try simp only [and_imp]); intros)
      go_wp2_with fail
      exact ⟨rfl, Below.refl _ _, rfl⟩
     ·(first | refine StepG.run rfl ?_ | refine StepG.on rfl rfl ?_)
      (try dsimp only)
      intro u w5 hb5 hd
      obtain ⟨hc5, hf5⟩ := bcell hb5
      have hz5 := hb5.size
      (try (simp [Region.binds, Note.phi] at hd))
      (try simp only [putsFrom, Act.put, qA, qB, qC, Nat.zero_add, Nat.reduceAdd])
      (try simp only [hd])
      revert hd
      ((try simp only [and_imp]); intros)
      go_wp2_with fail
      exact ⟨rfl, Below.refl _ _, rfl⟩
     ·(first | refine StepG.run rfl ?_ | refine StepG.on rfl rfl ?_)
      (try dsimp only)
      intro u w5 hb5 hd
      obtain ⟨hc5, hf5⟩ := bcell hb5
      have hz5 := hb5.size
      (try (simp [Region.binds, Note.phi] at hd))
      (try simp only [putsFrom, Act.put, qA, qB, qC, Nat.zero_add, Nat.reduceAdd])
      (try simp only [hd])
      revert hd
      ((try simp only [and_imp]); intros)
      go_wp2_with fail
      exact ⟨rfl, Below.refl _ _, rfl⟩
     ·(first | refine StepG.run rfl ?_ | refine StepG.on rfl rfl ?_)
      (try dsimp only)
      intro u w5 hb5 hd
      obtain ⟨hc5, hf5⟩ := bcell hb5
      have hz5 := hb5.size
      (try (simp [Region.binds, Note.phi] at hd))
      (try simp only [putsFrom, Act.put, qA, qB, qC, Nat.zero_add, Nat.reduceAdd])
      (try simp only [hd])
      revert hd
      ((try simp only [and_imp]); intros)
      go_wp2_with fail
      exact ⟨rfl, Below.refl _ _, rfl⟩
     ·(first | refine StepG.run rfl ?_ | refine StepG.on rfl rfl ?_)
      (try dsimp only)
      intro u w5 hb5 hd
      obtain ⟨hc5, hf5⟩ := bcell hb5
      have hz5 := hb5.size
      (try (simp [Region.binds, Note.phi] at hd))
      (try simp only [putsFrom, Act.put, qA, qB, qC, Nat.zero_add, Nat.reduceAdd])
      (try simp only [hd])
      revert hd
      ((try simp only [and_imp]); intros)
      go_wp2_with fail
      exact ⟨rfl, Below.refl _ _, rfl⟩
     ·(first | refine StepG.run rfl ?_ | refine StepG.on rfl rfl ?_)
      (try dsimp only)
      intro u w5 hb5 hd
      obtain ⟨hc5, hf5⟩ := bcell hb5
      have hz5 := hb5.size
      (try (simp [Region.binds, Note.phi] at hd))
      (try simp only [putsFrom, Act.put, qA, qB, qC, Nat.zero_add, Nat.reduceAdd])
      (try simp only [hd])
      revert hd
      ((try simp only [and_imp]); intros)
      go_wp2_with fail
      exact ⟨rfl, Below.refl _ _, rfl⟩
     ·(first | refine StepG.run rfl ?_ | refine StepG.on rfl rfl ?_)
      (try dsimp only)
      intro u w5 hb5 hd
      obtain ⟨hc5, hf5⟩ := bcell hb5
      have hz5 := hb5.size
      (try (simp [Region.binds, Note.phi] at hd))
      (try simp only [putsFrom, Act.put, qA, qB, qC, Nat.zero_add, Nat.reduceAdd])
      (try simp only [hd])
      revert hd
      ((try simp only [and_imp]); intros)
      go_wp2_with (go_at_call 78; (with_reducible refine (HrN _ (by exact below_auto)).mono ?_); rintro e wy ⟨vy, rfl, hpy, hby⟩)
      exact ⟨rfl, by exact below_auto, by assumption⟩
     ·(first | refine StepG.run rfl ?_ | refine StepG.on rfl rfl ?_)
      (try dsimp only)
      intro u w5 hb5 hd
      obtain ⟨hc5, hf5⟩ := bcell hb5
      have hz5 := hb5.size
      (try (simp [Region.binds, Note.phi] at hd))
      (try simp only [putsFrom, Act.put, qA, qB, qC, Nat.zero_add, Nat.reduceAdd])
      (try simp only [hd])
      revert hd
      ((try simp only [and_imp]); intros)
      go_wp2_with (go_at_call 77; (with_reducible refine (HrS _ _ (by assumption)).mono ?_); rintro e wy ⟨vy, rfl, hpy, hby⟩)
      exact ⟨rfl, by exact below_auto, by assumption⟩
     ·(first | refine StepG.run rfl ?_ | refine StepG.on rfl rfl ?_)
      (try dsimp only)
      intro u w5 hb5 hd
      obtain ⟨hc5, hf5⟩ := bcell hb5
      have hz5 := hb5.size
      (try (simp [Region.binds, Note.phi] at hd))
      (try simp only [putsFrom, Act.put, qA, qB, qC, Nat.zero_add, Nat.reduceAdd])
      (try simp only [hd])
      revert hd
      ((try simp only [and_imp]); intros)
      go_wp2_with (go_at_call 91; (with_reducible refine (HrE _ _ (by assumption) (by exact below_auto)).mono ?_); rintro e wy ⟨rfl, hby⟩)
      exact ⟨rfl, by exact below_auto, rfl⟩
     ·(first | refine StepG.run rfl ?_ | refine StepG.on rfl rfl ?_)
      (try dsimp only)
      intro u w5 hb5 hd
      obtain ⟨hc5, hf5⟩ := bcell hb5
      have hz5 := hb5.size
      (try (simp [Region.binds, Note.phi] at hd))
      (try simp only [putsFrom, Act.put, qA, qB, qC, Nat.zero_add, Nat.reduceAdd])
      (try simp only [hd])
      revert hd
      ((try simp only [and_imp]); intros)
      go_wp2_with fail
      exact ⟨rfl, Below.refl _ _, rfl⟩
     ·(first | refine StepG.run rfl ?_ | refine StepG.on rfl rfl ?_)
      (try dsimp only)
      intro u w5 hb5 hd
      obtain ⟨hc5, hf5⟩ := bcell hb5
      have hz5 := hb5.size
      (try (simp [Region.binds, Note.phi] at hd))
      (try simp only [putsFrom, Act.put, qA, qB, qC, Nat.zero_add, Nat.reduceAdd])
      (try simp only [hd])
      revert hd
      ((try simp only [and_imp]); intros)
      go_wp2_with fail
      exact ⟨rfl, Below.refl _ _, rfl⟩
    ·intro u w5 hb5 hph hap
     obtain ⟨hc5, hf5⟩ := bcell hb5
     have hz5 := hb5.size
     have hp0 := hph 0 (by simp)
     have hp1 := hph 1 (by simp)
     have hp2 := hph 2 (by simp)
     have hp3 := hph 3 (by simp)
     have hp4 := hph 4 (by simp)
     have hp5 := hph 5 (by simp)
     have hp6 := hph 6 (by simp)
     have hp7 := hph 7 (by simp)
     have hp8 := hph 8 (by simp)
     have hp9 := hph 9 (by simp)
     have hp10 := hph 10 (by simp)
     have hp11 := hph 11 (by simp)
     have hp12 := hph 12 (by simp)
     have hp13 := hph 13 (by simp)
     have hp14 := hph 14 (by simp)
     have hp15 := hph 15 (by simp)
     have hp16 := hph 16 (by simp)
     have hp17 := hph 17 (by simp)
     have hp18 := hph 18 (by simp)
     have hp19 := hph 19 (by simp)
     have hp20 := hph 20 (by simp)
     have hp21 := hph 21 (by simp)
     have hp22 := hph 22 (by simp)
     have hp23 := hph 23 (by simp)
     have hp24 := hph 24 (by simp)
     have hp25 := hph 25 (by simp)
     clear hph hap
     simp only [List.length_cons, List.length_nil, List.take_succ_cons, List.take_zero, List.drop_succ_cons, List.drop_zero, putsFrom, Act.put, qA, qB, qC, Nat.zero_add, Nat.reduceAdd]
     generalize u 0 = u0 at *
     cases hp0
     generalize u 1 = u1 at *
     cases hp1
     generalize u 2 = u2 at *
     cases hp2
     generalize u 3 = u3 at *
     cases hp3
     generalize u 4 = u4 at *
     have hp4 : (FloatsRow L1) u4 w5 := hp4
     generalize u 5 = u5 at *
     cases hp5
     generalize u 6 = u6 at *
     cases hp6
     generalize u 7 = u7 at *
     cases hp7
     generalize u 8 = u8 at *
     cases hp8
     generalize u 9 = u9 at *
     cases hp9
     generalize u 10 = u10 at *
     cases hp10
     generalize u 11 = u11 at *
     cases hp11
     generalize u 12 = u12 at *
     have hp12 : (FloatsRow L3) u12 w5 := hp12
     generalize u 13 = u13 at *
     cases hp13
     generalize u 14 = u14 at *
     cases hp14
     generalize u 15 = u15 at *
     cases hp15
     generalize u 16 = u16 at *
     cases hp16
     generalize u 17 = u17 at *
     cases hp17
     generalize u 18 = u18 at *
     cases hp18
     generalize u 19 = u19 at *
     cases hp19
     generalize u 20 = u20 at *
     cases hp20
     generalize u 21 = u21 at *
     have hp21 : (RangesRow G) u21 w5 := hp21
     generalize u 22 = u22 at *
     have hp22 : (FormsRow G) u22 w5 := hp22
     generalize u 23 = u23 at *
     cases hp23
     generalize u 24 = u24 at *
     cases hp24
     generalize u 25 = u25 at *
     cases hp25
     clear u
     go_wp2_with fail
     go_ret
     exact ⟨rfl, by exact below_auto⟩
end Go.Proofs.YtekmadgacepdfaaGreat.K
