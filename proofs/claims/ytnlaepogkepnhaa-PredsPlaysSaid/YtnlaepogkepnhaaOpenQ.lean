/- How a script of layer 10 is opened. -/
import Derived.Test.YtnlaepogkepnhaaOpenF
import Derived.Test.YtnlaepogkepnhaaQG
namespace Go.Proofs.Ytnlaepogkepnhaa
set_option linter.unusedVariables false
open Go.Joins Go.ChangeShapes Go.WideShapes Go.ChangeAt Go.RowKit Go.Deep

set_option maxRecDepth 100000
section
variable {H : Type} {enc : TypeId × Value → H} {P : Program} {w : World} {base : Nat} {spare : Nat → Bool} {held : Bool}

theorem trod_ops10 {v : Value} {y : DataW H × List MemPlace} {fuel : Nat} (h : DataW.trod enc Try.prog w base spare held fuel 61 [v] = some y) : ∃ a c xs, v = .slice a xs.length c ∧ Q.OAt w a xs ∧ xs.length ≤ c ∧ c ≤ 9223372036854775807 := by
  rcases open_slice Try.underlying61 h with ⟨h0, _⟩ | ⟨a, len, cap, m, n, D, Pl, hcs, hb, hl, hm, hmm, hx, hi⟩
  · exact ⟨none, 0, [], by simpa using h0, ⟨.inl rfl, fun i hi => absurd hi (Nat.not_lt_zero _), Nat.zero_le _⟩, Nat.zero_le _, by omega⟩
  · have key : ∀ i, i < len → ∃ s : Q.OpV, (w.cell? (a.add (i * 6)) = some (.int .i64 s.kind) ∧ w.cell? (a.add (i * 6 + 1)) = some (.float .f64 s.lo) ∧ w.cell? (a.add (i * 6 + 2)) = some (.float .f64 s.hi) ∧ w.cell? (a.add (i * 6 + 3)) = some (.bool s.a) ∧ w.cell? (a.add (i * 6 + 4)) = some (.bool s.b) ∧ w.cell? (a.add (i * 6 + 5)) = some (.int .i64 s.n)) ∧ s.lo < 2 ^ 64 ∧ s.hi < 2 ^ 64 := fun i hi' => by
      obtain ⟨cs', hc, ht'⟩ := hi i (by rw [hmm]; split <;> omega)
      have h6 : Try.prog.cellsOf 65 = 6 := by kernel_rfl
      rw [h6] at hc
      obtain ⟨ys, n', hn', hy, hlen, hyl, hf⟩ := DataW.trod_struct Try.underlying65 ht'
      obtain ⟨_, hcl, hat⟩ := World.cells?_some hc
      match cs', hcl with
      | [c0, c1, c2, c3, c4, c5], _ =>
        have g : ∀ j, j < 6 → w.cell? (a.add (i * 6 + j)) = [c0, c1, c2, c3, c4, c5][j]? := fun j hj => by
          rw [← Go.Deep.add_add]; exact hat j hj
        obtain ⟨y0, e0⟩ : ∃ y, ys[0]? = some y := ⟨_, List.getElem?_eq_getElem (by rw [hyl]; decide)⟩
        obtain ⟨y1, e1⟩ : ∃ y, ys[1]? = some y := ⟨_, List.getElem?_eq_getElem (by rw [hyl]; decide)⟩
        obtain ⟨y2, e2⟩ : ∃ y, ys[2]? = some y := ⟨_, List.getElem?_eq_getElem (by rw [hyl]; decide)⟩
        have t0 : DataW.trod enc Try.prog w base spare held n' 3 (([c0, c1, c2, c3, c4, c5].drop 0).take (Try.prog.cellsOf 3)) = some y0 := (hf 0 _ rfl).trans e0
        have t1 : DataW.trod enc Try.prog w base spare held n' 25 (([c0, c1, c2, c3, c4, c5].drop 1).take (Try.prog.cellsOf 25)) = some y1 := (hf 1 _ rfl).trans e1
        have t2 : DataW.trod enc Try.prog w base spare held n' 2 (([c0, c1, c2, c3, c4, c5].drop 5).take (Try.prog.cellsOf 2)) = some y2 := (hf 2 _ rfl).trans e2
        have k1 : Try.prog.cellsOf 3 = 1 := by kernel_rfl
        have k2 : Try.prog.cellsOf 25 = 4 := by kernel_rfl
        have k3 : Try.prog.cellsOf 2 = 1 := by kernel_rfl
        have k4 : Try.prog.cellsOf 23 = 1 := by kernel_rfl
        have k5 : Try.prog.cellsOf 4 = 1 := by kernel_rfl
        rw [k1] at t0
        rw [k2] at t1
        rw [k3] at t2
        simp only [List.drop_succ_cons, List.drop_zero, List.take_succ_cons, List.take_zero] at t0 t1 t2
        obtain ⟨zs, n2, _, _, _, hzl, hg⟩ := DataW.trod_struct Try.underlying25 t1
        obtain ⟨z0, f0⟩ : ∃ y, zs[0]? = some y := ⟨_, List.getElem?_eq_getElem (by rw [hzl]; decide)⟩
        obtain ⟨z1, f1⟩ : ∃ y, zs[1]? = some y := ⟨_, List.getElem?_eq_getElem (by rw [hzl]; decide)⟩
        obtain ⟨z2, f2⟩ : ∃ y, zs[2]? = some y := ⟨_, List.getElem?_eq_getElem (by rw [hzl]; decide)⟩
        obtain ⟨z3, f3⟩ : ∃ y, zs[3]? = some y := ⟨_, List.getElem?_eq_getElem (by rw [hzl]; decide)⟩
        have u0 : DataW.trod enc Try.prog w base spare held n2 23 (([c1, c2, c3, c4].drop 0).take (Try.prog.cellsOf 23)) = some z0 := (hg 0 _ rfl).trans f0
        have u1 : DataW.trod enc Try.prog w base spare held n2 23 (([c1, c2, c3, c4].drop 1).take (Try.prog.cellsOf 23)) = some z1 := (hg 1 _ rfl).trans f1
        have u2 : DataW.trod enc Try.prog w base spare held n2 4 (([c1, c2, c3, c4].drop 2).take (Try.prog.cellsOf 4)) = some z2 := (hg 2 _ rfl).trans f2
        have u3 : DataW.trod enc Try.prog w base spare held n2 4 (([c1, c2, c3, c4].drop 3).take (Try.prog.cellsOf 4)) = some z3 := (hg 3 _ rfl).trans f3
        rw [k4] at u0 u1
        rw [k5] at u2 u3
        simp only [List.drop_succ_cons, List.drop_zero, List.take_succ_cons, List.take_zero] at u0 u1 u2 u3
        obtain ⟨b0, q0, _⟩ := DataW.trod_int Try.underlying3 t0
        obtain ⟨b1, q1, l1⟩ := trod_floatOf Try.underlying23 u0
        obtain ⟨b2, q2, l2⟩ := trod_floatOf Try.underlying23 u1
        obtain ⟨b3, q3, _⟩ := DataW.trod_bool Try.underlying4 u2
        obtain ⟨b4, q4, _⟩ := DataW.trod_bool Try.underlying4 u3
        obtain ⟨b5, q5, _⟩ := DataW.trod_int Try.underlying2 t2
        simp only [List.cons.injEq, and_true] at q0 q1 q2 q3 q4 q5
        subst q0 q1 q2 q3 q4 q5
        exact ⟨⟨b0, b1, b2, b3, b4, b5⟩, ⟨g 0 (by omega), g 1 (by omega), g 2 (by omega), g 3 (by omega), g 4 (by omega), g 5 (by omega)⟩, l1, l2⟩
    obtain ⟨F, hF⟩ := choose_lt key
    have at' : ∀ i, i < len → ((List.range len).map F)[i]?.getD default = F i := fun i hi' => by simp [List.getElem?_map, List.getElem?_range hi']
    refine ⟨some a, cap, (List.range len).map F, by simpa using hcs, ⟨?_, fun i hi' => ?_, by simp; omega⟩, by simpa using hl, hm⟩
    · rcases Nat.eq_zero_or_pos len with hz | hp
      · exact .inl (by simp [hz])
      · obtain ⟨bl, o, sp⟩ := a
        have h0 := (hF 0 hp).1.1
        have hs : sp = none := by simpa [Addr.add] using World.cell?_spot h0
        subst hs
        refine .inr ⟨bl, o, rfl, cell_lt' h0, fun i hi' => ?_⟩
        have hi2 : i < len := by simpa using hi'
        rw [at' i hi2]
        simpa [addN, Nat.add_assoc] using (hF i hi2).1
    · have hi2 : i < len := by simpa using hi'
      rw [at' i hi2]
      exact (hF i hi2).2

theorem open_ops10CArg {r : Reach} {b0 : Nat} {v : Value} {d : DataW H} {ps : List MemPlace} (hval : Value.okWide Try.prog w r b0 61 v) (hd : DataW.Trod enc Try.prog w base spare held 61 v d ps) :
    ∃ a c xs, v = .slice a xs.length c ∧ Q.OAt w a xs ∧ (xs.length ≤ c ∧ c ≤ 9223372036854775807) := by
  obtain ⟨fuel, hf⟩ := hd
  obtain ⟨a, n, c, rfl⟩ := okWide_slice Try.underlying61 hval
  exact trod_ops10 hf
theorem open_ops10Arg {r : Reach} {b0 : Nat} {v : Value} {d : DataW H} {ps : List MemPlace} (hval : Value.okWide Try.prog w r b0 61 v) (hd : DataW.Trod enc Try.prog w base spare held 61 v d ps) :
    ∃ a c xs, v = .slice a xs.length c ∧ Q.OAt w a xs := by
  obtain ⟨a, c, xs, h1, h2, _⟩ := open_ops10CArg hval hd
  exact ⟨a, c, xs, h1, h2⟩
theorem open_int10Arg {r : Reach} {b0 : Nat} {v : Value} {d : DataW H} {ps : List MemPlace} (hval : Value.okWide Try.prog w r b0 3 v) (hd : DataW.Trod enc Try.prog w base spare held 3 v d ps) :
    ∃ n, v = .int .i64 n ∧ (-9223372036854775808 ≤ n ∧ n ≤ 9223372036854775807) := by
  obtain ⟨b, h1, _, _, h2⟩ := open_int Try.underlying3 hval hd
  refine ⟨b, h1, ?_⟩
  simp only [Lit.wf, Bool.and_eq_true] at h2
  exact ⟨of_decide_eq_true h2.1, of_decide_eq_true h2.2⟩
theorem open_int6410Arg {r : Reach} {b0 : Nat} {v : Value} {d : DataW H} {ps : List MemPlace} (hval : Value.okWide Try.prog w r b0 2 v) (hd : DataW.Trod enc Try.prog w base spare held 2 v d ps) :
    ∃ n, v = .int .i64 n ∧ (-9223372036854775808 ≤ n ∧ n ≤ 9223372036854775807) := by
  obtain ⟨b, h1, _, _, h2⟩ := open_int Try.underlying2 hval hd
  refine ⟨b, h1, ?_⟩
  simp only [Lit.wf, Bool.and_eq_true] at h2
  exact ⟨of_decide_eq_true h2.1, of_decide_eq_true h2.2⟩
end
end Go.Proofs.Ytnlaepogkepnhaa
