/- How the arguments' readings are opened: a row of numbers; a number. -/
import Derived.Test.YtekmadgacepdfaaGreatMO
import Derived.Test.YtekmadgacepdfaaGreatMUD
namespace Go.Proofs.YtekmadgacepdfaaGreat
set_option linter.unusedVariables false
open Go.Joins Go.ChangeShapes Go.WideShapes Go.ChangeAt Go.RowKit Go.Deep

set_option maxRecDepth 100000
section
variable {H : Type} {enc : TypeId × Value → H} {P : Program} {w : World} {base : Nat} {spare : Nat → Bool} {held : Bool}
theorem trod_ints {v : Value} {y : DataW H × List MemPlace} {fuel : Nat} (h : DataW.trod enc Tryz.prog w base spare held fuel 22 [v] = some y) : ∃ a c xs, v = .slice a xs.length c ∧ U.ZAt w a xs := by
  rcases open_slice1 Tryz.underlying22 (by kernel_rfl) h with ⟨h0, _⟩ | ⟨a, len, cap, m, n, V, D, Pl, hcs, hb, hl, hm, hmm, hx, hi⟩
  · exact ⟨none, 0, [], by simpa using h0, ⟨.inl rfl, Nat.zero_le _⟩⟩
  · have key : ∀ i, i < len → ∃ b : Int, V i = .int .i64 b := fun i hi' => by
      obtain ⟨b, h1, _⟩ := DataW.trod_int Tryz.underlying3 (hi i (by rw [hmm]; split <;> omega)).2
      exact ⟨b, by simpa using h1⟩
    obtain ⟨F, hF⟩ := choose_lt key
    have at' : ∀ i, i < len → ((List.range len).map F)[i]?.getD 0 = F i := fun i hi' => by simp [List.getElem?_map, List.getElem?_range hi']
    refine ⟨some a, cap, (List.range len).map F, by simpa using hcs, ?_, by simp; omega⟩
    rcases Nat.eq_zero_or_pos len with hz | hp
    · exact .inl (by simp [hz])
    · obtain ⟨bl, o, sp⟩ := a
      have h0 := (hi 0 (by rw [hmm]; split <;> omega)).1
      have hs : sp = none := by simpa [Addr.add] using World.cell?_spot h0
      subst hs
      refine .inr ⟨bl, o, rfl, cell_lt' h0, fun i hi' => ?_⟩
      have hi2 : i < len := by simpa using hi'
      have := (hi i (by rw [hmm]; split <;> omega)).1
      rw [at' i hi2, ← hF i hi2]
      rw [addN] at this; exact this
theorem open_intsArg {r : Reach} {b0 : Nat} {v : Value} {d : DataW H} {ps : List MemPlace} (hval : Value.okWide Tryz.prog w r b0 22 v) (hd : DataW.Trod enc Tryz.prog w base spare held 22 v d ps) :
    ∃ a c xs, v = .slice a xs.length c ∧ U.ZAt w a xs := by
  obtain ⟨fuel, hf⟩ := hd
  obtain ⟨a, n, c, rfl⟩ := okWide_slice Tryz.underlying22 hval
  exact trod_ints hf
theorem open_intUArg {r : Reach} {b0 : Nat} {v : Value} {d : DataW H} {ps : List MemPlace} (hval : Value.okWide Tryz.prog w r b0 3 v) (hd : DataW.Trod enc Tryz.prog w base spare held 3 v d ps) :
    ∃ n, v = .int .i64 n ∧ (-9223372036854775808 ≤ n ∧ n ≤ 9223372036854775807) := by
  obtain ⟨b, h1, _, _, h2⟩ := open_int Tryz.underlying3 hval hd
  refine ⟨b, h1, ?_⟩
  simp only [Lit.wf, Bool.and_eq_true] at h2
  exact ⟨of_decide_eq_true h2.1, of_decide_eq_true h2.2⟩
theorem open_int64UArg {r : Reach} {b0 : Nat} {v : Value} {d : DataW H} {ps : List MemPlace} (hval : Value.okWide Tryz.prog w r b0 2 v) (hd : DataW.Trod enc Tryz.prog w base spare held 2 v d ps) :
    ∃ n, v = .int .i64 n ∧ (-9223372036854775808 ≤ n ∧ n ≤ 9223372036854775807) := by
  obtain ⟨b, h1, _, _, h2⟩ := open_int Tryz.underlying2 hval hd
  refine ⟨b, h1, ?_⟩
  simp only [Lit.wf, Bool.and_eq_true] at h2
  exact ⟨of_decide_eq_true h2.1, of_decide_eq_true h2.2⟩
end
end Go.Proofs.YtekmadgacepdfaaGreat
