/- How the arguments' readings are opened: rows of floats, of spans; a submission. -/
import Derived.Test.YtgpkfgeflcdbcaaGreatOpenN
import Derived.Test.YtgpkfgeflcdbcaaGreatMR
namespace Go.Proofs.YtgpkfgeflcdbcaaGreat
set_option linter.unusedVariables false
open Go.Joins Go.ChangeShapes Go.WideShapes Go.ChangeAt Go.RowKit Go.Deep

set_option maxRecDepth 100000
section
variable {H : Type} {enc : TypeId × Value → H} {P : Program} {w : World} {base : Nat} {spare : Nat → Bool} {held : Bool}

theorem trod_floats {v : Value} {y : DataW H × List MemPlace} {fuel : Nat} (h : DataW.trod enc Tryz.prog w base spare held fuel 22 [v] = some y) : ∃ a n c xs, v = .slice a n c ∧ xs.length = n ∧ FAt w a xs := by
  rcases open_slice1 Tryz.underlying22 (by kernel_rfl) h with ⟨h0, _⟩ | ⟨a, len, cap, m, n, V, D, Pl, hcs, hb, hl, hm, hmm, hx, hi⟩
  · exact ⟨none, 0, 0, [], by simpa using h0, rfl, ⟨.inl rfl, fun i hi => absurd hi (Nat.not_lt_zero _), Nat.zero_le _⟩⟩
  · have key : ∀ i, i < len → ∃ b : Nat, V i = .float .f64 b ∧ b < 2 ^ 64 := fun i hi' => by
      obtain ⟨b, h1, h2⟩ := trod_floatOf Tryz.underlying33 (hi i (by rw [hmm]; split <;> omega)).2
      exact ⟨b, by simpa using h1, h2⟩
    obtain ⟨F, hF⟩ := choose_lt key
    have at' : ∀ i, i < len → ((List.range len).map F)[i]?.getD 0 = F i := fun i hi' => by simp [List.getElem?_map, List.getElem?_range hi']
    refine ⟨some a, len, cap, (List.range len).map F, by simpa using hcs, by simp, ?_, fun i hi' => ?_, by simp; omega⟩
    · rcases Nat.eq_zero_or_pos len with hz | hp
      · exact .inl (by simp [hz])
      · obtain ⟨bl, o, sp⟩ := a
        have h0 := (hi 0 (by rw [hmm]; split <;> omega)).1
        have hs : sp = none := by simpa [Addr.add] using World.cell?_spot h0
        subst hs
        refine .inr ⟨bl, o, rfl, cell_lt' h0, fun i hi' => ?_⟩
        have hi2 : i < len := by simpa using hi'
        have := (hi i (by rw [hmm]; split <;> omega)).1
        rw [at' i hi2, ← (hF i hi2).1]
        rw [addN] at this; exact this
    · have hi2 : i < len := by simpa using hi'
      rw [at' i hi2]
      exact (hF i hi2).2

theorem open_subArg {r : Reach} {b0 : Nat} {v : Value} {d : DataW H} {ps : List MemPlace} (hval : Value.okWide Tryz.prog w r b0 25 v) (hd : DataW.Trod enc Tryz.prog w base spare held 25 v d ps) :
    ∃ x : SubV, v = .agg #[.int .i64 x.s0, .int .i64 x.s1, .int .i64 x.s2, .slice x.ra x.rs.length x.rc, .slice x.sa x.ss.length x.sc, .slice x.wa x.ws.length x.wc] ∧ x.At w := by
  obtain ⟨c0, c1, c2, c3, c4, c5, y0, y1, y2, y3, y4, y5, m, rfl, h0, h1, h2, h3, h4, h5⟩ := open_agg6 Tryz.underlying25 (by kernel_rfl) (by kernel_rfl) hval hd
  obtain ⟨s0, e0, _⟩ := DataW.trod_int Tryz.underlying2 h0
  obtain ⟨s1, e1, _⟩ := DataW.trod_int Tryz.underlying2 h1
  obtain ⟨s2, e2, _⟩ := DataW.trod_int Tryz.underlying2 h2
  simp only [List.cons.injEq, and_true] at e0 e1 e2
  subst e0 e1 e2
  obtain ⟨ra, n1, rc, rs, rfl, rfl, k1⟩ := trod_floats h3
  obtain ⟨sa, n2, sc, ss, rfl, rfl, k2⟩ := trod_spans h4
  obtain ⟨wa, n3, wc, ws, rfl, rfl, k3⟩ := trod_floats h5
  exact ⟨⟨s0, s1, s2, ra, rc, rs, sa, sc, ss, wa, wc, ws⟩, rfl, ⟨k1, k2, k3⟩⟩
end
end Go.Proofs.YtgpkfgeflcdbcaaGreat
