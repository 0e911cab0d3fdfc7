/- The walk of SubCanons. -/
import Derived.Test.YtgpkfgeflcdbcaaGreatLCanonical
namespace Go.Proofs.YtgpkfgeflcdbcaaGreat.K
set_option linter.unusedVariables false
set_option linter.unusedSimpArgs false
open Go.RowKit Fl

/-- The small submission. -/
def SmallRow (v : Value) (w : World) : Prop := ∃ B : Nat, v = .agg #[.int .i64 1, .int .i64 2, .int .i64 0, .slice (some ⟨B + 1, 0, none⟩) 2 2, .slice (some ⟨B + 1 + 1, 0, none⟩) 1 1, .slice (some ⟨B + 1 + 1 + 1, 0, none⟩) 1 1] ∧ (smallV B).At w
theorem SmallRow.below {v : Value} {w w' : World} (h : SmallRow v w) (hb : Below w.heap.size w w') : SmallRow v w' := by
  obtain ⟨B, h1, h2⟩ := h
  exact ⟨B, h1, h2.below hb⟩
theorem small_row (w : World) : Calls Tryz.prog 25 #[] w fun e w' => ∃ v, e = .returned v ∧ SmallRow v w' ∧ Below w.heap.size w w' :=
  (small_any w).mono fun e w' ⟨B, h1, h2, h3⟩ => ⟨_, h1, ⟨B, rfl, h2⟩, h3⟩
theorem small_same (a1 a2 a3 : Option Addr) (d1 d2 d3 : Nat) (v : Value) (W : World) (f1 : FAt W a1 [4607182418800017408, 4613937818241073152]) (s2 : SAt W a2 [⟨4607182418800017408, 4613937818241073152, false, false⟩]) (f3 : FAt W a3 [4611686018427387904]) (hv : SmallRow v W) :
    Calls Tryz.prog 14 #[.agg #[.int .i64 1, .int .i64 2, .int .i64 0, .slice a1 2 d1, .slice a2 1 d2, .slice a3 1 d3], v] W (Ret (.bool true) W) := by
  obtain ⟨B, rfl, hB⟩ := hv
  exact refSame04_true 1 2 0 2 1 1 a1 (some ⟨B + 1, 0, none⟩) a2 (some ⟨B + 1 + 1, 0, none⟩) a3 (some ⟨B + 1 + 1 + 1, 0, none⟩) d1 2 d2 1 d3 1 W
    (fun U hb => sameKeysF _ _ _ _ 2 2 _ (smallV B).rs true U rfl rfl (f1.below hb) (hB.r.below hb) (by simp [smallV]))
    (fun U hb => sameKeysF _ _ _ _ 1 1 _ (smallV B).ws true U rfl rfl (f3.below hb) (hB.w.below hb) (by simp [smallV]))
    (fun U hb => N.refSameS_any _ _ _ _ 1 1 _ (smallV B).ss true U rfl rfl (s2.below hb) (hB.s.below hb) (by simp [smallV]))

set_option maxRecDepth 100000 in
theorem canonical_any (w : World) : Calls Tryz.prog 11 #[] w (Ret (.bool true) w) := by
  go_enter Tryz.func11, Tryz.ntmps11
  go_wp2_with fail
  refine (ex_canon w).mono ?_
  rintro e w1 ⟨a1, a2, a3, d1, d2, d3, rfl, f1, s2, f3, hb1⟩
  have hz1 := hb1.size
  go_upto_region 2 with fail
  generalize hW5 : World.alloc _ _ = w5
  have hC5 : Below w1.heap.size w1 w5 := by rw [← hW5]; (repeat (first | with_reducible exact Below.refl _ _ | ((with_reducible refine Below.alloc1 ?_ ?_ _); (· first | omega | (simp; done) | (simp; omega))) | (with_reducible refine Below.drew ?_) | (with_reducible refine below_drewN' ?_ _) | ((with_reducible refine Below.setCell1 ?_ ?_ _); (· first | omega | (simp; done) | (simp; omega))) | ((with_reducible refine Below.after (by assumption) ?_ ?_); (· first | omega | (simp; done) | (simp; omega)))))
  have hS5 : w1.heap.size < w5.heap.size := by rw [← hW5]; simp
  have c0 : w5.cell? ⟨w1.heap.size, 0, none⟩ = some (.int .i64 1) := by rw [← hW5]; simp [go_sem]
  have c1 : w5.cell? ⟨w1.heap.size, 1, none⟩ = some (.int .i64 2) := by rw [← hW5]; simp [go_sem]
  have c2 : w5.cell? ⟨w1.heap.size, 2, none⟩ = some (.int .i64 0) := by rw [← hW5]; simp [go_sem]
  have c3 : w5.cell? ⟨w1.heap.size, 3, none⟩ = some (.slice a1 2 d1) := by rw [← hW5]; simp [go_sem]
  have c4 : w5.cell? ⟨w1.heap.size, 4, none⟩ = some (.slice a2 1 d2) := by rw [← hW5]; simp [go_sem]
  have c5 : w5.cell? ⟨w1.heap.size, 5, none⟩ = some (.slice a3 1 d3) := by rw [← hW5]; simp [go_sem]
  clear hW5
  have F1 := f1.below hC5; have S2 := s2.below hC5; have F3 := f3.below hC5
  have HS := fun (v : Value) (W : World) (hv : SmallRow v W) (hb : Below w5.heap.size w5 W) => small_same a1 a2 a3 d1 d2 d3 v W (F1.below hb) (S2.below hb) (F3.below hb) hv
  clear f1 s2 f3 F1 S2 F3
  refine wp_region_notesG [Note.val (.int .i64 0), Note.val (.bool true), Note.val (.bool true), Note.val (.agg #[.int .i64 1, .int .i64 2, .int .i64 0, .slice a1 2 d1, .slice a2 1 d2, .slice a3 1 d3]), Note.fits (SmallRow) (fun _ _ _ h hb => h.below hb), Note.val (.bool true), Note.val (.bool true), Note.val (.bool true)] rfl (by kernel_rfl) (by kernel_rfl) ?_ ?_
  · simp only [List.length_cons, List.length_nil, Nat.reduceAdd, List.take_succ_cons, List.take_zero, StepsG, List.nil_append, List.cons_append]
    refine ⟨?_, ?_, ?_, ?_, ?_, ?_, ?_, ?_, trivial⟩
    · (first | refine StepG.run rfl ?_ | refine StepG.on rfl rfl ?_)
      (try dsimp only)
      intro u w6 hb6 hd
      obtain ⟨hc6, hf6⟩ := bcell hb6
      have hz6 := hb6.size
      (try (simp [Region.binds, Note.phi] at hd))
      (try simp only [putsFrom, Act.put, List.setIfInBounds_toArray, List.set_cons_zero, List.set_cons_succ, Nat.zero_add, Nat.reduceAdd])
      (try simp only [hd])
      revert hd
      ((try simp only [and_imp]); intros)
      go_wp2_with fail
      exact ⟨rfl, Below.refl _ _, rfl⟩
    · (first | refine StepG.run rfl ?_ | refine StepG.on rfl rfl ?_)
      (try dsimp only)
      intro u w6 hb6 hd
      obtain ⟨hc6, hf6⟩ := bcell hb6
      have hz6 := hb6.size
      (try (simp [Region.binds, Note.phi] at hd))
      (try simp only [putsFrom, Act.put, List.setIfInBounds_toArray, List.set_cons_zero, List.set_cons_succ, Nat.zero_add, Nat.reduceAdd])
      (try simp only [hd])
      revert hd
      ((try simp only [and_imp]); intros)
      go_wp2_with fail
      exact ⟨rfl, Below.refl _ _, rfl⟩
    · (first | refine StepG.run rfl ?_ | refine StepG.on rfl rfl ?_)
      (try dsimp only)
      intro u w6 hb6 hd
      obtain ⟨hc6, hf6⟩ := bcell hb6
      have hz6 := hb6.size
      (try (simp [Region.binds, Note.phi] at hd))
      (try simp only [putsFrom, Act.put, List.setIfInBounds_toArray, List.set_cons_zero, List.set_cons_succ, Nat.zero_add, Nat.reduceAdd])
      (try simp only [hd])
      revert hd
      ((try simp only [and_imp]); intros)
      go_wp2_with fail
      exact ⟨rfl, Below.refl _ _, rfl⟩
    · (first | refine StepG.run rfl ?_ | refine StepG.on rfl rfl ?_)
      (try dsimp only)
      intro u w6 hb6 hd
      obtain ⟨hc6, hf6⟩ := bcell hb6
      have hz6 := hb6.size
      (try (simp [Region.binds, Note.phi] at hd))
      (try simp only [putsFrom, Act.put, List.setIfInBounds_toArray, List.set_cons_zero, List.set_cons_succ, Nat.zero_add, Nat.reduceAdd])
      (try simp only [hd])
      revert hd
      ((try simp only [and_imp]); intros)
      go_wp2_with fail
      exact ⟨rfl, Below.refl _ _, rfl⟩
    · (first | refine StepG.run rfl ?_ | refine StepG.on rfl rfl ?_)
      (try dsimp only)
      intro u w6 hb6 hd
      obtain ⟨hc6, hf6⟩ := bcell hb6
      have hz6 := hb6.size
      (try (simp [Region.binds, Note.phi] at hd))
      (try simp only [putsFrom, Act.put, List.setIfInBounds_toArray, List.set_cons_zero, List.set_cons_succ, Nat.zero_add, Nat.reduceAdd])
      (try simp only [hd])
      revert hd
      ((try simp only [and_imp]); intros)
      go_wp2_with (go_at_call 25; (with_reducible refine (small_row _).mono ?_); rintro e wy ⟨vy, rfl, hpy, hby⟩)
      exact ⟨rfl, by (repeat (first | with_reducible exact Below.refl _ _ | ((with_reducible refine Below.alloc1 ?_ ?_ _); (· first | omega | (simp; done) | (simp; omega))) | (with_reducible refine Below.drew ?_) | (with_reducible refine below_drewN' ?_ _) | ((with_reducible refine Below.setCell1 ?_ ?_ _); (· first | omega | (simp; done) | (simp; omega))) | ((with_reducible refine Below.after (by assumption) ?_ ?_); (· first | omega | (simp; done) | (simp; omega))))), by assumption⟩
    · (first | refine StepG.run rfl ?_ | refine StepG.on rfl rfl ?_)
      (try dsimp only)
      intro u w6 hb6 hd
      obtain ⟨hc6, hf6⟩ := bcell hb6
      have hz6 := hb6.size
      (try (simp [Region.binds, Note.phi] at hd))
      (try simp only [putsFrom, Act.put, List.setIfInBounds_toArray, List.set_cons_zero, List.set_cons_succ, Nat.zero_add, Nat.reduceAdd])
      (try simp only [hd])
      revert hd
      ((try simp only [and_imp]); intros)
      go_wp2_with (go_at_call 14; (with_reducible refine (HS _ _ (by assumption) (by (repeat (first | with_reducible exact Below.refl _ _ | ((with_reducible refine Below.alloc1 ?_ ?_ _); (· first | omega | (simp; done) | (simp; omega))) | (with_reducible refine Below.drew ?_) | (with_reducible refine below_drewN' ?_ _) | ((with_reducible refine Below.setCell1 ?_ ?_ _); (· first | omega | (simp; done) | (simp; omega))) | ((with_reducible refine Below.after (by assumption) ?_ ?_); (· first | omega | (simp; done) | (simp; omega))))))).mono ?_); rintro e wy ⟨rfl, hby⟩)
      exact ⟨rfl, by (repeat (first | with_reducible exact Below.refl _ _ | ((with_reducible refine Below.alloc1 ?_ ?_ _); (· first | omega | (simp; done) | (simp; omega))) | (with_reducible refine Below.drew ?_) | (with_reducible refine below_drewN' ?_ _) | ((with_reducible refine Below.setCell1 ?_ ?_ _); (· first | omega | (simp; done) | (simp; omega))) | ((with_reducible refine Below.after (by assumption) ?_ ?_); (· first | omega | (simp; done) | (simp; omega))))), rfl⟩
    · (first | refine StepG.run rfl ?_ | refine StepG.on rfl rfl ?_)
      (try dsimp only)
      intro u w6 hb6 hd
      obtain ⟨hc6, hf6⟩ := bcell hb6
      have hz6 := hb6.size
      (try (simp [Region.binds, Note.phi] at hd))
      (try simp only [putsFrom, Act.put, List.setIfInBounds_toArray, List.set_cons_zero, List.set_cons_succ, Nat.zero_add, Nat.reduceAdd])
      (try simp only [hd])
      revert hd
      ((try simp only [and_imp]); intros)
      go_wp2_with fail
      exact ⟨rfl, Below.refl _ _, rfl⟩
    · (first | refine StepG.run rfl ?_ | refine StepG.on rfl rfl ?_)
      (try dsimp only)
      intro u w6 hb6 hd
      obtain ⟨hc6, hf6⟩ := bcell hb6
      have hz6 := hb6.size
      (try (simp [Region.binds, Note.phi] at hd))
      (try simp only [putsFrom, Act.put, List.setIfInBounds_toArray, List.set_cons_zero, List.set_cons_succ, Nat.zero_add, Nat.reduceAdd])
      (try simp only [hd])
      revert hd
      ((try simp only [and_imp]); intros)
      go_wp2_with fail
      exact ⟨rfl, Below.refl _ _, rfl⟩
  · intro u w6 hb6 hph hap
    obtain ⟨hc6, hf6⟩ := bcell hb6
    have hz6 := hb6.size
    have hp0 := hph 0 (by simp)
    have hp1 := hph 1 (by simp)
    have hp2 := hph 2 (by simp)
    have hp3 := hph 3 (by simp)
    have hp4 := hph 4 (by simp)
    have hp5 := hph 5 (by simp)
    have hp6 := hph 6 (by simp)
    have hp7 := hph 7 (by simp)
    clear hph hap
    simp only [List.length_cons, List.length_nil, List.take_succ_cons, List.take_zero, List.drop_succ_cons, List.drop_zero, putsFrom, Act.put, List.setIfInBounds_toArray, List.set_cons_zero, List.set_cons_succ, Nat.zero_add, Nat.reduceAdd]
    generalize u 0 = u0 at *
    cases hp0
    generalize u 1 = u1 at *
    cases hp1
    generalize u 2 = u2 at *
    cases hp2
    generalize u 3 = u3 at *
    cases hp3
    generalize u 4 = u4 at *
    have hp4 : (SmallRow) u4 w6 := hp4
    generalize u 5 = u5 at *
    cases hp5
    generalize u 6 = u6 at *
    cases hp6
    generalize u 7 = u7 at *
    cases hp7
    clear u
    go_wp2_with fail
    go_ret
    exact ⟨rfl, hb1.trans ((hC5.trans (hb6.mono hC5.size)).mono hz1)⟩

/-- append([]float64{}, xs...). -/
theorem copyF_all (w : World) (a : Option Addr) (c n : Nat) (xs : List Nat) (hn : xs.length = n) (h : FAt w a xs) (hl : n ≤ 17592186044410) :
    ∃ a' c' w', (∀ ty, (Builtin.append_ #[22, 22] ty #[.slice (some ⟨w.heap.size, 0, none⟩) 0 0, .slice a n c]).run Tryz.prog (w.alloc (.cells #[] 33)) = .ok (.slice a' n c') w') ∧
      w'.ownsRow w.heap.size 33 1 (.slice a' n c') n (fCells xs) ∧ Below w.heap.size w w' := by
  obtain ⟨i0, hi0, hz0, hzs, hzb⟩ := info_parts floatInfo
  have hb1 : Below w.heap.size w (w.alloc (.cells #[] 33)) := by (repeat (first | with_reducible exact Below.refl _ _ | ((with_reducible refine Below.alloc1 ?_ ?_ _); (· first | omega | (simp; done) | (simp; omega))) | (with_reducible refine Below.drew ?_) | (with_reducible refine below_drewN' ?_ _) | ((with_reducible refine Below.setCell1 ?_ ?_ _); (· first | omega | (simp; done) | (simp; omega))) | ((with_reducible refine Below.after (by assumption) ?_ ?_); (· first | omega | (simp; done) | (simp; omega)))))
  have hown0 : (w.alloc (.cells #[] 33)).ownsRow w.heap.size 33 1 (.slice (some ⟨w.heap.size, 0, none⟩) 0 0) 0 [] :=
    ⟨rfl, .inr ⟨w.heap.size, 0, #[], rfl, Nat.le_refl _, heap_alloc_new w _, Nat.le_refl _, by unfold maxLen; omega, rfl, rfl⟩⟩
  by_cases h0 : n = 0
  · subst h0
    have hs : xs = [] := List.eq_nil_of_length_eq_zero hn
    subst hs
    refine ⟨some ⟨w.heap.size, 0, none⟩, 0, _, fun ty => ?_, hown0, hb1⟩
    cases a with
    | none => simp [Builtin.append_, run_underlying Tryz.underlying22, Builtin.lenOf, Builtin.firstCells, sizeOf, typeInfo, hi0, go_sem]
    | some a => simp [Builtin.append_, run_underlying Tryz.underlying22, Builtin.lenOf, Builtin.firstCells, sizeOf, typeInfo, hi0, go_sem]
  · rcases (h.below hb1).row with h1 | ⟨b, o, rfl, hb, hcl⟩
    · rw [h1] at hn; simp at hn; omega
    · obtain ⟨v', w', hr, h2, h3⟩ := run_append_own2 (P := Tryz.prog) (w.alloc (.cells #[] 33)) w.heap.size 22 33 i0 _ 1 8 Tryz.underlying22 hi0 hz0 hzs hzb rfl (by omega) _ _ _ hown0 ⟨b, o, none⟩ n c (fCells xs) (by rw [fCells_len, hn, Nat.mul_one])
        (fun j u hu => by
          have hj : j < xs.length := by rw [← fCells_len xs]; exact (List.getElem?_eq_some_iff.1 hu).1
          have := hcl j hj
          unfold fCells at hu
          rw [List.getElem?_map, fl_some hj] at hu
          rw [Addr.add_lit, ← hu]; exact this)
        (fun u hu => by obtain ⟨s, _, rfl⟩ := List.mem_map.1 hu; rfl) (by omega) (by unfold maxLen; omega) (by omega) (by simp)
      rw [Nat.zero_add, List.nil_append] at h2
      obtain ⟨a', c', rfl⟩ := own_sliceF h2
      exact ⟨a', c', w', hr, h2, hb1.grown h3.1 (by simp) (fun k hk => (hown0.lt k hk).1)⟩
/-- One is stored anew; the row stays one's own. -/
theorem own_any1 {w : World} {base g cv m i : Nat} {xs : List Value} (v : Value) (hi : i < m) (h : w.ownsRow base 33 1 (.slice (some ⟨g, 0, none⟩) m cv) m xs) :
    ∃ xs', (w.setCell ⟨g, i, none⟩ v).ownsRow base 33 1 (.slice (some ⟨g, 0, none⟩) m cv) m xs' ∧ w.grownBy (w.setCell ⟨g, i, none⟩ v) (some g) := by
  rcases h.2 with ⟨h1, _⟩ | ⟨g', cap, cur, h1, hbase, hb, hnc, hcm, hcs, htake⟩
  · cases h1
  · cases h1
    obtain ⟨h2, h3⟩ := set1 (i := i) hb v
    refine ⟨_, ⟨?_, .inr ⟨g, cv, _, rfl, hbase, h2, hnc, hcm, by simpa using hcs, rfl⟩⟩, h3⟩
    have : m * 1 ≤ cur.size := by rw [hcs]; exact Nat.mul_le_mul_right _ hnc
    simp; omega
theorem own_there1 {w : World} {base g cv m i : Nat} {xs : List Value} (hi : i < m) (h : w.ownsRow base 33 1 (.slice (some ⟨g, 0, none⟩) m cv) m xs) :
    (∃ v, w.cell? ⟨g, i, none⟩ = some v) ∧ ∀ o, w.frozen? ⟨g, o, none⟩ = false := by
  rcases h.2 with ⟨h1, _⟩ | ⟨g', cap, cur, h1, hbase, hb, hnc, hcm, hcs, htake⟩
  · cases h1
  · cases h1
    refine ⟨?_, fun o => by simp [World.frozen?, hb]⟩
    have : m * 1 ≤ cur.size := by rw [hcs]; exact Nat.mul_le_mul_right _ hnc
    refine ⟨cur[i]'(by omega), ?_⟩
    rw [N.cell_row hb, Array.getElem?_eq_getElem]

theorem cell_of_block {w w' : World} {b : Nat} (h : w'.heap[b]? = w.heap[b]?) (j : Nat) : w'.cell? ⟨b, j, none⟩ = w.cell? ⟨b, j, none⟩ := by simp only [World.cell?, h]
/-- What Canon hands back, as numbers. -/
structure CanO where
  s0 : Int
  s1 : Int
  s2 : Int
  rs : List Nat
  ss : List SpanV
  ws : List Nat
def canO (x : SubV) : CanO := if canC x = 0 then ⟨x.s0, x.s1, x.s2, bits (fsort x.rs), (refAllN [] (N.forms x.ss)).map N.RK.raw, bits (fsort x.ws)⟩ else ⟨0, 0, 0, [], [], []⟩
def CanAt (base : Nat) (o : CanO) (a1 a2 a3 : Option Addr) (d1 d2 d3 : Nat) (w : World) : Prop := w.ownsRow base 33 1 (.slice a1 o.rs.length d1) o.rs.length (fCells o.rs) ∧ FAt w a1 o.rs ∧ SAt w a2 o.ss ∧ FAt w a3 o.ws
theorem CanAt.below {base : Nat} {o : CanO} {a1 a2 a3 : Option Addr} {d1 d2 d3 : Nat} {w w' : World} (h : CanAt base o a1 a2 a3 d1 d2 d3 w) (hb : Below w.heap.size w w') : CanAt base o a1 a2 a3 d1 d2 d3 w' :=
  ⟨h.1.kept (grown_of_below hb) (by cases (Value.slice a1 o.rs.length d1).ownBlock <;> simp), h.2.1.below hb, h.2.2.1.below hb, h.2.2.2.below hb⟩
def CanO.v (o : CanO) (a1 a2 a3 : Option Addr) (d1 d2 d3 : Nat) : Value := .agg #[.int .i64 o.s0, .int .i64 o.s1, .int .i64 o.s2, .slice a1 o.rs.length d1, .slice a2 o.ss.length d2, .slice a3 o.ws.length d3]
theorem canRet_o {x : SubV} {w w' : World} {e : Ending} (hf : Fits x) (h : CanRet w x.s0 x.s1 x.s2 (bits (fsort x.rs)) (bits (fsort x.ws)) (refAllN [] (N.forms x.ss)) (canC x) e w') :
    ∃ a1 a2 a3 d1 d2 d3, e = .returned (.tuple #[.agg #[.int .i64 (canO x).s0, .int .i64 (canO x).s1, .int .i64 (canO x).s2, .slice a1 (canO x).rs.length d1, .slice a2 (canO x).ss.length d2, .slice a3 (canO x).ws.length d3], .int .i64 (canC x)]) ∧ CanAt w.heap.size (canO x) a1 a2 a3 d1 d2 d3 w' ∧ Below w.heap.size w w' := by
  obtain ⟨hb, h⟩ := h
  rcases h with ⟨h0, v1, v2, v3, he, h1, h2, h3⟩ | ⟨h0, he⟩
  · obtain ⟨⟨a1, d1, rfl⟩, _⟩ := id h1
    obtain ⟨⟨a2, d2, rfl⟩, _⟩ := id h2
    obtain ⟨⟨a3, d3, rfl⟩, _⟩ := id h3
    have ho := out_at hf h1 h2 h3
    refine ⟨a1, a2, a3, d1, d2, d3, ?_, ?_, hb⟩
    · rw [he]; unfold canO; rw [if_pos h0, h0]; simp only [List.length_map]
    · unfold canO; rw [if_pos h0]
      exact ⟨h1.2, ho.r, ho.s, ho.w⟩
  · refine ⟨none, none, none, 0, 0, 0, ?_, ?_, hb⟩
    · rw [he]; unfold canO; rw [if_neg h0]; rfl
    · unfold canO; rw [if_neg h0]
      exact ⟨⟨rfl, .inl ⟨rfl, rfl⟩⟩, ⟨.inl rfl, fun i hi => absurd hi (Nat.not_lt_zero _), Nat.zero_le _⟩, ⟨.inl rfl, fun i hi => absurd hi (Nat.not_lt_zero _), Nat.zero_le _⟩, ⟨.inl rfl, fun i hi => absurd hi (Nat.not_lt_zero _), Nat.zero_le _⟩⟩
theorem canO_same (o : CanO) (b b' : Nat) (a1 a2 a3 e1 e2 e3 : Option Addr) (d1 d2 d3 f1 f2 f3 : Nat) (W : World) (h : CanAt b o a1 a2 a3 d1 d2 d3 W) (h' : CanAt b' o e1 e2 e3 f1 f2 f3 W) :
    Calls Tryz.prog 14 #[.agg #[.int .i64 o.s0, .int .i64 o.s1, .int .i64 o.s2, .slice a1 o.rs.length d1, .slice a2 o.ss.length d2, .slice a3 o.ws.length d3], .agg #[.int .i64 o.s0, .int .i64 o.s1, .int .i64 o.s2, .slice e1 o.rs.length f1, .slice e2 o.ss.length f2, .slice e3 o.ws.length f3]] W (Ret (.bool true) W) := by
  obtain ⟨_, r1, s1, t1⟩ := h
  obtain ⟨_, r2, s2, t2⟩ := h'
  exact refSame04_true _ _ _ _ _ _ _ _ _ _ _ _ _ _ _ _ _ _ W
    (fun U hb => sameKeysF _ _ _ _ _ _ _ _ true U rfl rfl (r1.below hb) (r2.below hb) (by simp))
    (fun U hb => sameKeysF _ _ _ _ _ _ _ _ true U rfl rfl (t1.below hb) (t2.below hb) (by simp))
    (fun U hb => N.refSameS_any _ _ _ _ _ _ _ _ true U rfl rfl (s1.below hb) (s2.below hb) (by simp))

set_option maxHeartbeats 1000000 in
set_option maxRecDepth 100000 in
theorem subCanons_walk (x : SubV) (w : World) (h : x.At w) (hf : Fits x) :
    Calls Tryz.prog 3 #[.agg #[.int .i64 x.s0, .int .i64 x.s1, .int .i64 x.s2, .slice x.ra x.rs.length x.rc, .slice x.sa x.ss.length x.sc, .slice x.wa x.ws.length x.wc]] w (Ret (.bool true) w) := by
  have HX := hid h
  have HF := hid hf
  have hrl := hf.1
  clear h hf
  go_enter Tryz.func3, Tryz.ntmps3
  go_upto_region 1 with fail
  generalize hW0 : World.alloc _ _ = w0 at *
  have hA : Below w.heap.size w w0 := by rw [← hW0]; (repeat (first | with_reducible exact Below.refl _ _ | ((with_reducible refine Below.alloc1 ?_ ?_ _); (· first | omega | (simp; done) | (simp; omega))) | (with_reducible refine Below.drew ?_) | (with_reducible refine below_drewN' ?_ _) | ((with_reducible refine Below.setCell1 ?_ ?_ _); (· first | omega | (simp; done) | (simp; omega))) | ((with_reducible refine Below.after (by assumption) ?_ ?_); (· first | omega | (simp; done) | (simp; omega)))))
  have hz0 : w.heap.size < w0.heap.size := by rw [← hW0]; simp
  have b0 : w0.cell? ⟨w.heap.size, 0, none⟩ = some (.int .i64 x.s0) := by rw [← hW0]; simp [go_sem]
  have b1 : w0.cell? ⟨w.heap.size, 1, none⟩ = some (.int .i64 x.s1) := by rw [← hW0]; simp [go_sem]
  have b2 : w0.cell? ⟨w.heap.size, 2, none⟩ = some (.int .i64 x.s2) := by rw [← hW0]; simp [go_sem]
  have b3 : w0.cell? ⟨w.heap.size, 3, none⟩ = some (.slice x.ra x.rs.length x.rc) := by rw [← hW0]; simp [go_sem]
  have b4 : w0.cell? ⟨w.heap.size, 4, none⟩ = some (.slice x.sa x.ss.length x.sc) := by rw [← hW0]; simp [go_sem]
  have b5 : w0.cell? ⟨w.heap.size, 5, none⟩ = some (.slice x.wa x.ws.length x.wc) := by rw [← hW0]; simp [go_sem]
  clear hW0
  go_upto_region 3 with (go_at_call 11; (with_reducible refine (canonical_any _).mono ?_); rintro e w1 ⟨rfl, hb1⟩; obtain ⟨hc1, hf1⟩ := bcell hb1; (try simp only [World.heap_drewN, World.cell?_drewN, World.frozen?_drewN] at hc1 hf1); have hz1 := hb1.size; (try simp at hz1); (try have hy1_0 : w.heap.size < w1.heap.size := by omega); (try have hy1_1 : w.heap.size + 1 < w1.heap.size := by omega); (try have hy1_2 : w.heap.size + 2 < w1.heap.size := by omega); (try have hy1_3 : w.heap.size + 3 < w1.heap.size := by omega); (try have hx1_0 : w.heap.size ≤ w1.heap.size := by omega); (try have hx1_1 : w.heap.size + 1 ≤ w1.heap.size := by omega); (try have hx1_2 : w.heap.size + 2 ≤ w1.heap.size := by omega))
  have hS1 : w.heap.size < w1.heap.size := Nat.lt_of_lt_of_le hz0 hb1.size
  have hC1 : Below w.heap.size w w1 := hA.trans (hb1.mono (by omega))
  have c0 := (hb1.cell (p := ⟨w.heap.size, 0, none⟩) hz0).trans b0; have c1 := (hb1.cell (p := ⟨w.heap.size, 1, none⟩) hz0).trans b1; have c2 := (hb1.cell (p := ⟨w.heap.size, 2, none⟩) hz0).trans b2; have c3 := (hb1.cell (p := ⟨w.heap.size, 3, none⟩) hz0).trans b3; have c4 := (hb1.cell (p := ⟨w.heap.size, 4, none⟩) hz0).trans b4; have c5 := (hb1.cell (p := ⟨w.heap.size, 5, none⟩) hz0).trans b5
  clear hb1 hc1 hf1 b0 b1 b2 b3 b4 b5
  have kc : ∀ W, Below w1.heap.size w1 W → ∀ j, W.cell? ⟨w.heap.size, j, none⟩ = w1.cell? ⟨w.heap.size, j, none⟩ := fun W hb j => hb.cell hS1
  have KC := hid kc
  clear kc
  obtain ⟨a2, d2, w2, hr2, hown2, hb2⟩ := copyF_all w1 x.ra x.rc _ x.rs rfl (HX.out.below hC1).r (by omega)
  go_upto_region 4 with (at_builtin; refine Lib.wpList_append_run _ rfl _ _ _ _ rfl _ _ rfl rfl _ _ (hr2 _) ?_)
  have hwas := hid (own_fat rfl hown2 (by omega) (fun y hy => by
    obtain ⟨i, hi, rfl⟩ := List.getElem_of_mem hy
    have := HX.out.r.lt i hi
    rwa [List.getElem?_eq_getElem hi] at this))
  have hC2 : Below w.heap.size w w2 := hC1.trans (hb2.mono hC1.size)
  have hz2 := hb2.size
  have k0 := (KC.out w2 hb2 0).trans c0; have k1 := (KC.out w2 hb2 1).trans c1; have k2 := (KC.out w2 hb2 2).trans c2; have k3 := (KC.out w2 hb2 3).trans c3; have k4 := (KC.out w2 hb2 4).trans c4; have k5 := (KC.out w2 hb2 5).trans c5
  clear hr2 hown2
  have HR : ∀ W, Below w2.heap.size w2 W → Calls Tryz.prog 13 #[.agg #[.int .i64 x.s0, .int .i64 x.s1, .int .i64 x.s2, .slice x.ra x.rs.length x.rc, .slice x.sa x.ss.length x.sc, .slice x.wa x.ws.length x.wc]] W fun e W' => ∃ a1 a2 a3 d1 d2 d3, e = .returned (.tuple #[.agg #[.int .i64 (canO x).s0, .int .i64 (canO x).s1, .int .i64 (canO x).s2, .slice a1 (canO x).rs.length d1, .slice a2 (canO x).ss.length d2, .slice a3 (canO x).ws.length d3], .int .i64 (canC x)]) ∧ CanAt W.heap.size (canO x) a1 a2 a3 d1 d2 d3 W' ∧ Below W.heap.size W W' := fun W hb =>
    (refCanon_any x W (HX.out.below (hC2.trans (hb.mono hC2.size))) HF.out).mono fun e W' h => canRet_o HF.out h
  go_wp2_with fail
  refine (canon_any x w2 (HX.out.below hC2) HF.out).mono ?_
  rintro e w3 h3
  obtain ⟨a3, a4, a5, d3, d4, d5, rfl, hO3, hb3⟩ := canRet_o HF.out h3
  have HHR := hid HR
  clear h3 HR
  have hr3 := HX.out.r
  generalize canO x = o at *
  generalize canC x = cc at *
  have hrow : ∀ g, a3 = some ⟨g, 0, none⟩ → w2.heap.size ≤ g ∧ g < w3.heap.size := fun g hg => hO3.1.lt g (by rw [hg]; rfl)
  have HROW := hid hrow
  clear hrow k0 k1 k2 k3 k4 k5
  have hz3 := hb3.size
  go_upto_region 5 with fail
  generalize hW4 : World.alloc _ _ = w4 at *
  have hb4 : Below w3.heap.size w3 w4 := by rw [← hW4]; (repeat (first | with_reducible exact Below.refl _ _ | ((with_reducible refine Below.alloc1 ?_ ?_ _); (· first | omega | (simp; done) | (simp; omega))) | (with_reducible refine Below.drew ?_) | (with_reducible refine below_drewN' ?_ _) | ((with_reducible refine Below.setCell1 ?_ ?_ _); (· first | omega | (simp; done) | (simp; omega))) | ((with_reducible refine Below.after (by assumption) ?_ ?_); (· first | omega | (simp; done) | (simp; omega)))))
  have hz4 : w3.heap.size < w4.heap.size := by rw [← hW4]; simp
  have q4 : w4.heap[w3.heap.size]? = some (.cells #[.int .i64 o.s0, .int .i64 o.s1, .int .i64 o.s2, .slice a3 o.rs.length d3, .slice a4 o.ss.length d4, .slice a5 o.ws.length d5] 25 (0, 0)) := by rw [← hW4]; simpa using heap_alloc_new w3 (.cells #[.int .i64 o.s0, .int .i64 o.s1, .int .i64 o.s2, .slice a3 o.rs.length d3, .slice a4 o.ss.length d4, .slice a5 o.ws.length d5] 25)
  clear hW4
  have hb14 : Below w1.heap.size w1 w4 := hb2.trans ((hb3.trans (hb4.mono hz3)).mono hz2)
  have hb24 : Below w2.heap.size w2 w4 := hb3.trans (hb4.mono hz3)
  have k0 := (KC.out w4 hb14 0).trans c0; have k1 := (KC.out w4 hb14 1).trans c1; have k2 := (KC.out w4 hb14 2).trans c2; have k3 := (KC.out w4 hb14 3).trans c3; have k4 := (KC.out w4 hb14 4).trans c4; have k5 := (KC.out w4 hb14 5).trans c5
  have hO4 := hO3.below hb4
  go_wp2_with fail
  refine (HHR.out w4 hb24).mono ?_
  rintro e w5 ⟨e3, e4, e5, f3, f4, f5, rfl, hO5, hb5⟩
  have hz5 := hb5.size
  clear k0 k1 k2 k3 k4 k5
  go_upto_region 6 with fail
  generalize hW6 : World.alloc _ _ = w6 at *
  have hb6 : Below w5.heap.size w5 w6 := by rw [← hW6]; (repeat (first | with_reducible exact Below.refl _ _ | ((with_reducible refine Below.alloc1 ?_ ?_ _); (· first | omega | (simp; done) | (simp; omega))) | (with_reducible refine Below.drew ?_) | (with_reducible refine below_drewN' ?_ _) | ((with_reducible refine Below.setCell1 ?_ ?_ _); (· first | omega | (simp; done) | (simp; omega))) | ((with_reducible refine Below.after (by assumption) ?_ ?_); (· first | omega | (simp; done) | (simp; omega)))))
  have hz6 : w5.heap.size < w6.heap.size := by rw [← hW6]; simp
  have q6 : w6.heap[w5.heap.size]? = some (.cells #[.int .i64 o.s0, .int .i64 o.s1, .int .i64 o.s2, .slice e3 o.rs.length f3, .slice e4 o.ss.length f4, .slice e5 o.ws.length f5] 25 (0, 0)) := by rw [← hW6]; simpa using heap_alloc_new w5 (.cells #[.int .i64 o.s0, .int .i64 o.s1, .int .i64 o.s2, .slice e3 o.rs.length f3, .slice e4 o.ss.length f4, .slice e5 o.ws.length f5] 25)
  clear hW6
  have hb46 : Below w4.heap.size w4 w6 := hb5.trans (hb6.mono hz5)
  have hO5' := hO5.below hb6
  have hO6 := hO4.below hb46
  have q4' := (hb46.block _ hz4).trans q4
  have x4 : ∀ j, w6.cell? ⟨w3.heap.size, j, none⟩ = _ := fun j => cell_of_row w6 _ j _ _ (0, 0) q4'
  have x6 : ∀ j, w6.cell? ⟨w5.heap.size, j, none⟩ = _ := fun j => cell_of_row w6 _ j _ _ (0, 0) q6
  have HSm := fun W (hb : Below w6.heap.size w6 W) => canO_same o _ _ _ _ _ _ _ _ _ _ _ _ _ _ W (hO6.below hb) (hO5'.below hb)
  have hO6r := hO6.1
  clear hO3 hO4 hO5 hO5' hO6
  go_upto_region 8 with (go_at_call 14; (with_reducible refine (HSm _ (by (repeat (first | with_reducible exact Below.refl _ _ | ((with_reducible refine Below.alloc1 ?_ ?_ _); (· first | omega | (simp; done) | (simp; omega))) | (with_reducible refine Below.drew ?_) | (with_reducible refine below_drewN' ?_ _) | ((with_reducible refine Below.setCell1 ?_ ?_ _); (· first | omega | (simp; done) | (simp; omega))) | ((with_reducible refine Below.after (by assumption) ?_ ?_); (· first | omega | (simp; done) | (simp; omega))))))).mono ?_); rintro e w7 ⟨rfl, hb7⟩; obtain ⟨hc7, hf7⟩ := bcell hb7; (try simp only [World.heap_drewN, World.cell?_drewN, World.frozen?_drewN] at hc7 hf7); have hz7 := hb7.size; (try simp at hz7); (try have hy7_0 : w.heap.size < w7.heap.size := by omega); (try have hy7_1 : w.heap.size + 1 < w7.heap.size := by omega); (try have hy7_2 : w.heap.size + 2 < w7.heap.size := by omega); (try have hy7_3 : w.heap.size + 3 < w7.heap.size := by omega); (try have hx7_0 : w.heap.size ≤ w7.heap.size := by omega); (try have hx7_1 : w.heap.size + 1 ≤ w7.heap.size := by omega); (try have hx7_2 : w.heap.size + 2 ≤ w7.heap.size := by omega))
  have hb26 : Below w2.heap.size w2 w6 := hb24.trans (hb46.mono hb24.size)
  have hb27 : Below w2.heap.size w2 w7 := hb26.trans (hb7.mono hb26.size)
  have hr7 := hO6r.kept (grown_of_below hb7) (by cases (Value.slice a3 o.rs.length d3).ownBlock <;> simp)
  have hz46 := hb46.size
  have q7 := (hb7.block _ (by omega)).trans q4'
  have z3 : w7.cell? ⟨w3.heap.size, 3, none⟩ = some (.slice a3 o.rs.length d3) := cell_of_row w7 _ 3 _ _ (0, 0) q7
  have H8 := hid hr7
  have hsame : ∀ W, Below w2.heap.size w2 W → FAt W x.ra x.rs := fun W hb => HX.out.r.below (hC2.trans (hb.mono hC2.size))
  have HSA := hid hsame
  have hz3' := hz3
  clear hr3 hsame x4 x6 HSm hO6r q4 q4' q6 hr7 hc7 hf7 hb7 hb26 hb24 hb14 hb46 HHR hb5 hb6 hb3 hb4
  generalize fCells o.rs = xs0 at *
  generalize o.rs.length = m at *
  go_wp2_with fail
  go_loopw [37] (fun iv wr => ∃ (i : Nat) (xs : List Value), i ≤ m ∧ iv = .int .i64 i ∧ Hid (wr.ownsRow w2.heap.size 33 1 (.slice a3 m d3) m xs) ∧ Below w2.heap.size w2 wr ∧ w3.heap.size < wr.heap.size ∧ wr.cell? ⟨w3.heap.size, 3, none⟩ = some (.slice a3 m d3)) (fun iv _ => m - (intOf iv).toNat)
  case atStart => exact ⟨0, xs0, Nat.zero_le _, rfl, H8, hb27, by omega, z3⟩
  case round =>
    obtain ⟨i, xs, him, rfl, HO, hb, hzr, y3⟩ := hrel
    have hz := hb.size
    by_cases hlt : i < m
    · have hlt' : (i : Int) < (m : Int) := by omega
      rcases HO.out.2 with ⟨q1, q2⟩ | ⟨g5, cap5, cur5, q1, hbg, hbk5, hnc5, hcm5, _⟩
      · omega
      cases q1
      unfold maxLen at hcm5
      clear hbk5
      have hgl := (HO.out.lt g5 rfl).2
      obtain ⟨hg1, hg2⟩ := HROW.out g5 rfl
      have hne : g5 ≠ w3.heap.size := by omega
      obtain ⟨⟨v0, y0⟩, hfz⟩ := own_there1 hlt HO.out
      obtain ⟨xs', hox, hgx⟩ := own_any1 (.float .f64 4635118810238550016) hlt HO.out
      have Hbx := hid (hb.grown hgx hz (fun k hk => by cases hk; exact hbg))
      have HOX := hid hox
      have HZ := hid (Nat.lt_of_lt_of_le hzr hgx.size)
      have HY := hid ((cell_of_block (hgx.block _ hzr (fun e => hne (Option.some.inj e.symm))) 3).trans y3)
      clear hox hgx
      go_wp2_with fail
      go_roundw
      case rel => exact ⟨i + 1, xs', by omega, by go_num, HOX, Hbx.out, HZ.out, HY.out⟩
      case measure => simp [intOf]; omega
    · obtain rfl : i = m := by omega
      have hC1r : Below w1.heap.size w1 wr := hb2.trans (hb.mono hz2)
      have k3 := (KC.out wr hC1r 3).trans c3
      have hbw : Below w.heap.size w wr := hC2.trans (hb.mono hC2.size)
      have h1 := HSA.out wr hb
      have h2 := hwas.out.below hb
      clear c0 c1 c2 c3 c4 c5 y3
      go_wp2_with fail
      refine (sameKeysF _ _ _ _ _ _ x.rs x.rs true wr rfl rfl h2 h1 (by simp)).mono ?_
      rintro e w10 ⟨rfl, hb10⟩
      go_wp2_with fail
      go_ret
      exact ⟨rfl, hbw.trans (hb10.mono hbw.size)⟩
end Go.Proofs.YtgpkfgeflcdbcaaGreat.K
