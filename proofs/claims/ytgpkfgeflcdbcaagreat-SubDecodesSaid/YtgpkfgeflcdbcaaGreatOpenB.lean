/- How rows of bytes and whole numbers are opened. -/
import Derived.Test.YtgpkfgeflcdbcaaGreatOpenF
import Derived.Test.YtgpkfgeflcdbcaaGreatMPA
namespace Go.Proofs.YtgpkfgeflcdbcaaGreat
set_option linter.unusedVariables false
open Go.Joins Go.ChangeShapes Go.WideShapes Go.ChangeAt Go.RowKit Go.Deep

set_option maxRecDepth 100000
section
variable {H : Type} {enc : TypeId × Value → H} {P : Program} {w : World} {base : Nat} {spare : Nat → Bool} {held : Bool}
theorem trod_bytes {v : Value} {y : DataW H × List MemPlace} {fuel : Nat} (h : DataW.trod enc Tryz.prog w base spare held fuel 36 [v] = some y) : ∃ a c xs, v = .slice a xs.length c ∧ Go.Proofs.YtgpkfgeflcdbcaaGreat.P.BAt w a xs ∧ xs.length ≤ c := by
  rcases open_slice1 Tryz.underlying36 (by kernel_rfl) h with ⟨h0, _⟩ | ⟨a, len, cap, m, n, V, D, Pl, hcs, hb, hl, hm, hmm, hx, hi⟩
  · exact ⟨none, 0, [], by simpa using h0, ⟨.inl rfl, fun i hi => (by cases hi), Nat.zero_le _⟩, Nat.le_refl _⟩
  · have key : ∀ i, i < len → ∃ b : Nat, V i = .int .u8 (b : Nat) ∧ b < 256 := fun i hi' => by
      obtain ⟨b, h1, _, h2⟩ := DataW.trod_int Tryz.underlying5 (hi i (by rw [hmm]; split <;> omega)).2
      simp only [Lit.wf, Bool.and_eq_true] at h2
      have h3 : (0 : Int) ≤ b := of_decide_eq_true h2.1
      have h4 : b ≤ (255 : Int) := of_decide_eq_true h2.2
      refine ⟨b.toNat, ?_, by omega⟩
      have e : ((b.toNat : Nat) : Int) = b := by omega
      rw [e]; simpa using h1
    obtain ⟨F, hF⟩ := choose_lt key
    have at' : ∀ i, i < len → ((List.range len).map F)[i]?.getD 0 = F i := fun i hi' => by simp [List.getElem?_map, List.getElem?_range hi']
    refine ⟨some a, cap, (List.range len).map F, by simpa using hcs, ⟨?_, fun x hx => ?_, by simp; omega⟩, by simpa using hl⟩
    · rcases Nat.eq_zero_or_pos len with hz | hp
      · exact .inl (by simp [hz])
      · obtain ⟨bl, o, sp⟩ := a
        have h0 := (hi 0 (by rw [hmm]; split <;> omega)).1
        have hs : sp = none := by simpa [Addr.add] using World.cell?_spot h0
        subst hs
        refine .inr ⟨bl, o, rfl, cell_lt' h0, fun i hi' => ?_⟩
        have hi2 : i < len := by simpa using hi'
        have := (hi i (by rw [hmm]; split <;> omega)).1
        rw [at' i hi2, ← (hF i hi2).1]
        rw [addN] at this; exact this
    · obtain ⟨i, hi', rfl⟩ := List.mem_map.1 hx
      exact (hF i (List.mem_range.1 hi')).2
theorem open_bytesArg {r : Reach} {b0 : Nat} {v : Value} {d : DataW H} {ps : List MemPlace} (hval : Value.okWide Tryz.prog w r b0 36 v) (hd : DataW.Trod enc Tryz.prog w base spare held 36 v d ps) :
    ∃ (a : Option Addr) (c : Nat) (bs : List Nat), v = .slice a bs.length c ∧ Go.Proofs.YtgpkfgeflcdbcaaGreat.P.BAt w a bs ∧ bs.length ≤ c := by
  obtain ⟨m, hm⟩ := hd
  obtain ⟨a0, n0, c0, rfl⟩ := okWide_slice Tryz.underlying36 hval
  exact trod_bytes hm
theorem open_intBArg {r : Reach} {b0 : Nat} {v : Value} {d : DataW H} {ps : List MemPlace} (hval : Value.okWide Tryz.prog w r b0 3 v) (hd : DataW.Trod enc Tryz.prog w base spare held 3 v d ps) :
    ∃ n, v = .int .i64 n ∧ (-9223372036854775808 ≤ n ∧ n ≤ 9223372036854775807) := by
  obtain ⟨b, h1, _, _, h2⟩ := open_int Tryz.underlying3 hval hd
  refine ⟨b, h1, ?_⟩
  simp only [Lit.wf, Bool.and_eq_true] at h2
  exact ⟨of_decide_eq_true h2.1, of_decide_eq_true h2.2⟩
end
end Go.Proofs.YtgpkfgeflcdbcaaGreat
