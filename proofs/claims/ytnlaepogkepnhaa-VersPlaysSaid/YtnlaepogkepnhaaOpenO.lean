/- How a script of layer 9 is opened. -/
import Derived.Test.YtnlaepogkepnhaaOpenF
import Derived.Test.YtnlaepogkepnhaaVQ
namespace Go.Proofs.Ytnlaepogkepnhaa
set_option linter.unusedVariables false
open Go.Joins Go.ChangeShapes Go.WideShapes Go.ChangeAt Go.RowKit Go.Deep

set_option maxRecDepth 100000
section
variable {H : Type} {enc : TypeId × Value → H} {P : Program} {w : World} {base : Nat} {spare : Nat → Bool} {held : Bool}

theorem trod_ops {v : Value} {y : DataW H × List MemPlace} {fuel : Nat} (h : DataW.trod enc Try.prog w base spare held fuel 22 [v] = some y) : ∃ a c xs, v = .slice a xs.length c ∧ OAt w a xs ∧ xs.length ≤ c ∧ c ≤ 9223372036854775807 := by
  rcases open_slice_fields Try.underlying22 Try.underlying30 (by kernel_rfl) (by kernel_rfl) h with ⟨h0, _⟩ | ⟨a, len, cap, hcs, hl, hm, hi⟩
  · exact ⟨none, 0, [], by simpa using h0, ⟨.inl rfl, fun i hi => absurd hi (Nat.not_lt_zero _), Nat.zero_le _⟩, Nat.zero_le _, by omega⟩
  · have key : ∀ i, i < len → ∃ s : OpV, (w.cell? (a.add (i * 3)) = some (.int .i64 s.kind) ∧ w.cell? (a.add (i * 3 + 1)) = some (.float .f64 s.key) ∧ w.cell? (a.add (i * 3 + 2)) = some (.int .i64 s.n)) ∧ s.key < 2 ^ 64 := fun i hi' => by
      obtain ⟨n, hf⟩ := hi i hi'
      obtain ⟨v0, y0, g0, t0⟩ := hf 0 _ rfl
      obtain ⟨v1, y1, g1, t1⟩ := hf 1 _ rfl
      obtain ⟨v2, y2, g2, t2⟩ := hf 2 _ rfl
      obtain ⟨b0, e0, _⟩ := DataW.trod_int Try.underlying3 t0
      obtain ⟨b1, e1, l1⟩ := trod_floatOf Try.underlying23 t1
      obtain ⟨b2, e2, _⟩ := DataW.trod_int Try.underlying2 t2
      simp only [List.cons.injEq, and_true] at e0 e1 e2
      subst e0 e1 e2
      exact ⟨⟨b0, b1, b2⟩, ⟨g0, g1, g2⟩, l1⟩
    obtain ⟨F, hF⟩ := choose_lt key
    have at' : ∀ i, i < len → ((List.range len).map F)[i]?.getD default = F i := fun i hi' => by simp [List.getElem?_map, List.getElem?_range hi']
    refine ⟨some a, cap, (List.range len).map F, by simpa using hcs, ⟨?_, fun i hi' => ?_, by simp; omega⟩, by simpa using hl, hm⟩
    · rcases Nat.eq_zero_or_pos len with hz | hp
      · exact .inl (by simp [hz])
      · obtain ⟨bl, o, sp⟩ := a
        have h0 := (hF 0 hp).1.1
        have hs : sp = none := by simpa [Addr.add] using World.cell?_spot h0
        subst hs
        refine .inr ⟨bl, o, rfl, cell_lt' h0, fun i hi' => ?_⟩
        have hi2 : i < len := by simpa using hi'
        rw [at' i hi2]
        simpa [addN, Nat.add_assoc] using (hF i hi2).1
    · have hi2 : i < len := by simpa using hi'
      rw [at' i hi2]
      exact (hF i hi2).2

theorem open_opsArg {r : Reach} {b0 : Nat} {v : Value} {d : DataW H} {ps : List MemPlace} (hval : Value.okWide Try.prog w r b0 22 v) (hd : DataW.Trod enc Try.prog w base spare held 22 v d ps) :
    ∃ a c xs, v = .slice a xs.length c ∧ OAt w a xs := by
  obtain ⟨fuel, hf⟩ := hd
  obtain ⟨a, n, c, rfl⟩ := okWide_slice Try.underlying22 hval
  obtain ⟨a, c, xs, h1, h2, _⟩ := trod_ops hf
  exact ⟨a, c, xs, h1, h2⟩
theorem open_opsCArg {r : Reach} {b0 : Nat} {v : Value} {d : DataW H} {ps : List MemPlace} (hval : Value.okWide Try.prog w r b0 22 v) (hd : DataW.Trod enc Try.prog w base spare held 22 v d ps) :
    ∃ a c xs, v = .slice a xs.length c ∧ OAt w a xs ∧ (xs.length ≤ c ∧ c ≤ 9223372036854775807) := by
  obtain ⟨fuel, hf⟩ := hd
  obtain ⟨a, n, c, rfl⟩ := okWide_slice Try.underlying22 hval
  exact trod_ops hf
theorem open_intArg {r : Reach} {b0 : Nat} {v : Value} {d : DataW H} {ps : List MemPlace} (hval : Value.okWide Try.prog w r b0 3 v) (hd : DataW.Trod enc Try.prog w base spare held 3 v d ps) :
    ∃ n, v = .int .i64 n ∧ (-9223372036854775808 ≤ n ∧ n ≤ 9223372036854775807) := by
  obtain ⟨b, h1, _, _, h2⟩ := open_int Try.underlying3 hval hd
  refine ⟨b, h1, ?_⟩
  simp only [Lit.wf, Bool.and_eq_true] at h2
  exact ⟨of_decide_eq_true h2.1, of_decide_eq_true h2.2⟩
theorem open_int64Arg {r : Reach} {b0 : Nat} {v : Value} {d : DataW H} {ps : List MemPlace} (hval : Value.okWide Try.prog w r b0 2 v) (hd : DataW.Trod enc Try.prog w base spare held 2 v d ps) :
    ∃ n, v = .int .i64 n ∧ (-9223372036854775808 ≤ n ∧ n ≤ 9223372036854775807) := by
  obtain ⟨b, h1, _, _, h2⟩ := open_int Try.underlying2 hval hd
  refine ⟨b, h1, ?_⟩
  simp only [Lit.wf, Bool.and_eq_true] at h2
  exact ⟨of_decide_eq_true h2.1, of_decide_eq_true h2.2⟩
end
end Go.Proofs.Ytnlaepogkepnhaa
