/- How the arguments' readings are opened: a row of spans, with its size. -/
import Derived.Test.YtgpkfgeflcdbcaaGreatOpenF
import Derived.Test.YtgpkfgeflcdbcaaGreatMR
import Derived.SizedLaws
namespace Go.Proofs.YtgpkfgeflcdbcaaGreat
set_option linter.unusedVariables false
open Go.Joins Go.ChangeShapes Go.WideShapes Go.ChangeAt Go.RowKit Go.Deep

set_option maxRecDepth 100000
section
variable {H : Type} {enc : TypeId × Value → H} {P : Program} {w : World} {base : Nat} {spare : Nat → Bool} {held : Bool}
theorem trod_spans {v : Value} {y : DataW H × List MemPlace} {fuel : Nat} (h : DataW.trod enc Tryz.prog w base spare held fuel 23 [v] = some y) : ∃ a n c xs, v = .slice a n c ∧ xs.length = n ∧ SAt w a xs := by
  rcases open_slice_fields Tryz.underlying23 Tryz.underlying50 (by kernel_rfl) (by kernel_rfl) h with ⟨h0, _⟩ | ⟨a, len, cap, hcs, hl, hm, hi⟩
  · exact ⟨none, 0, 0, [], by simpa using h0, rfl, ⟨.inl rfl, fun i hi => absurd hi (Nat.not_lt_zero _), Nat.zero_le _⟩⟩
  · have key : ∀ i, i < len → ∃ s : SpanV, (w.cell? (a.add (i * 4)) = some (.float .f64 s.lo) ∧ w.cell? (a.add (i * 4 + 1)) = some (.float .f64 s.hi) ∧ w.cell? (a.add (i * 4 + 2)) = some (.bool s.a) ∧ w.cell? (a.add (i * 4 + 3)) = some (.bool s.b)) ∧ s.lo < 2 ^ 64 ∧ s.hi < 2 ^ 64 := fun i hi' => by
      obtain ⟨n, hf⟩ := hi i hi'
      obtain ⟨v0, y0, g0, t0⟩ := hf 0 _ rfl
      obtain ⟨v1, y1, g1, t1⟩ := hf 1 _ rfl
      obtain ⟨v2, y2, g2, t2⟩ := hf 2 _ rfl
      obtain ⟨v3, y3, g3, t3⟩ := hf 3 _ rfl
      obtain ⟨b0, e0, l0⟩ := trod_floatOf Tryz.underlying33 t0
      obtain ⟨b1, e1, l1⟩ := trod_floatOf Tryz.underlying33 t1
      obtain ⟨b2, e2, _⟩ := DataW.trod_bool Tryz.underlying4 t2
      obtain ⟨b3, e3, _⟩ := DataW.trod_bool Tryz.underlying4 t3
      simp only [List.cons.injEq, and_true] at e0 e1 e2 e3
      subst e0 e1 e2 e3
      exact ⟨⟨b0, b1, b2, b3⟩, ⟨g0, g1, g2, g3⟩, l0, l1⟩
    obtain ⟨F, hF⟩ := choose_lt key
    have at' : ∀ i, i < len → ((List.range len).map F)[i]?.getD default = F i := fun i hi' => by simp [List.getElem?_map, List.getElem?_range hi']
    refine ⟨some a, len, cap, (List.range len).map F, by simpa using hcs, by simp, ?_, fun i hi' => ?_, by simp; omega⟩
    · rcases Nat.eq_zero_or_pos len with hz | hp
      · exact .inl (by simp [hz])
      · obtain ⟨bl, o, sp⟩ := a
        have h0 := (hF 0 hp).1.1
        have hs : sp = none := by simpa [Addr.add] using World.cell?_spot h0
        subst hs
        refine .inr ⟨bl, o, rfl, cell_lt' h0, fun i hi' => ?_⟩
        have hi2 : i < len := by simpa using hi'
        rw [at' i hi2]
        simpa [addN, Nat.add_assoc] using (hF i hi2).1
    · have hi2 : i < len := by simpa using hi'
      rw [at' i hi2]
      exact (hF i hi2).2
theorem spanBytes : Tryz.prog.bytesOf 50 = 24 := by kernel_rfl
theorem open_spansArg {r : Reach} {b0 : Nat} {v : Value} {d : DataW H} {ps : List MemPlace} (hval : Value.okWide Tryz.prog w r b0 23 v) (hd : DataW.Trod enc Tryz.prog w base spare held 23 v d ps)
    (hz : ∀ els sp, d = .slice els sp → (els.length + sp.length) * Tryz.prog.bytesOf 50 ≤ reachBytes) :
    ∃ (a : Option Addr) (n c : Nat) (xs : List SpanV), v = .slice a n c ∧ xs.length = n ∧ SAt w a xs ∧ n ≤ 5864062014634 := by
  obtain ⟨m, hm⟩ := hd
  obtain ⟨a0, n0, c0, rfl⟩ := okWide_slice Tryz.underlying23 hval
  obtain ⟨a, n, c, xs, h1, hn, hx⟩ := trod_spans hm
  cases h1
  refine ⟨a0, n0, c0, xs, rfl, hn, hx, ?_⟩
  rcases open_slice Tryz.underlying23 hm with ⟨h1, _⟩ | ⟨a', len, cap, m', n', D, Pl, hcs, hb, hl, hm', hmm, hxx, hi⟩
  · have h1' : [Value.slice a0 n0 c0] = [.slice none 0 0] := h1
    simp only [List.cons.injEq, Value.slice.injEq, and_true] at h1'
    omega
  · have hcs' : [Value.slice a0 n0 c0] = [.slice (some a') len cap] := hcs
    simp only [List.cons.injEq, Value.slice.injEq, and_true] at hcs'
    have hd' : d = .slice ((List.range len).map D) ((List.range (m' - len)).map fun j => D (len + j)) := congrArg Prod.fst hxx
    have := hz _ _ hd'
    rw [spanBytes] at this
    simp only [List.length_map, List.length_range, reachBytes] at this
    have : len ≤ m' := by rw [hmm]; split <;> omega
    omega
end
end Go.Proofs.YtgpkfgeflcdbcaaGreat
