/- How the arguments' readings are opened: a history; a row of numbers with its room. -/
import Derived.Test.YtekmadgacepdfaaGreatOpenH
import Derived.Test.YtekmadgacepdfaaGreatMTJ
namespace Go.Proofs.YtekmadgacepdfaaGreat
set_option linter.unusedVariables false
open Go.Joins Go.ChangeShapes Go.WideShapes Go.ChangeAt Go.RowKit Go.Deep

set_option maxRecDepth 100000
section
variable {H : Type} {enc : TypeId × Value → H} {P : Program} {w : World} {base : Nat} {spare : Nat → Bool} {held : Bool}
theorem trod_int64s {v : Value} {y : DataW H × List MemPlace} {fuel : Nat} (h : DataW.trod enc Tryz.prog w base spare held fuel 50 [v] = some y) : ∃ a c xs, v = .slice a xs.length c ∧ T.NAt w a xs ∧ xs.length ≤ c := by
 rcases open_slice1 Tryz.underlying50 (by kernel_rfl) h with ⟨h0, _⟩ | ⟨a, len, cap, m, n, V, D, Pl, hcs, hb, hl, hm, hmm, hx, hi⟩
 ·exact ⟨none, 0, [], by simpa using h0, ⟨.inl rfl, Nat.zero_le _⟩, Nat.zero_le _⟩
 ·have key : ∀ i, i < len → ∃ b : Int, V i = .int .i64 b := fun i hi' => by
   obtain ⟨b, h1, _⟩ := DataW.trod_int Tryz.underlying2 (hi i (by rw [hmm]; split <;> omega)).2
   exact ⟨b, by simpa using h1⟩
  obtain ⟨F, hF⟩ := choose_lt key
  have at' : ∀ i, i < len → ((List.range len).map F)[i]?.getD 0 = F i := fun i hi' => by simp [List.getElem?_map, List.getElem?_range hi']
  refine ⟨some a, cap, (List.range len).map F, by simpa using hcs, ⟨?_, by simp; omega⟩, by simp; omega⟩
  rcases Nat.eq_zero_or_pos len with hz | hp
  ·exact .inl (by simp [hz])
  ·obtain ⟨bl, o, sp⟩ := a
   have h0 := (hi 0 (by rw [hmm]; split <;> omega)).1
   have hs : sp = none := by simpa [Addr.add] using World.cell?_spot h0
   subst hs
   refine .inr ⟨bl, o, rfl, cell_lt' h0, fun i hi' => ?_⟩
   have hi2 : i < len := by simpa using hi'
   have := (hi i (by rw [hmm]; split <;> omega)).1
   rw [at' i hi2, ← hF i hi2]
   rw [addN] at this; exact this
theorem open_int64sArg {r : Reach} {b0 : Nat} {v : Value} {d : DataW H} {ps : List MemPlace} (hval : Value.okWide Tryz.prog w r b0 50 v) (hd : DataW.Trod enc Tryz.prog w base spare held 50 v d ps) :
  ∃ a c xs, v = .slice a xs.length c ∧ T.NAt w a xs ∧ xs.length ≤ c := by
 obtain ⟨fuel, hf⟩ := hd
 obtain ⟨a, n, c, rfl⟩ := okWide_slice Tryz.underlying50 hval
 exact trod_int64s hf
end
end Go.Proofs.YtekmadgacepdfaaGreat
