/- How the arguments' readings are opened: a submission, with its rows' sizes. -/
import Derived.Test.YtekmadgacepdfaaGreatMO
import Derived.Test.YtekmadgacepdfaaGreatMKH
namespace Go.Proofs.YtekmadgacepdfaaGreat
set_option linter.unusedVariables false
open Go.Joins Go.ChangeShapes Go.WideShapes Go.ChangeAt Go.RowKit Go.Deep

set_option maxRecDepth 100000
section
variable {H : Type} {enc : TypeId × Value → H} {P : Program} {w : World} {base : Nat} {spare : Nat → Bool} {held : Bool}
theorem sized_at {ts : List TypeId} {ds : List (DataW H)} (h : (DataW.weightsEach P ts ds).all (· ≤ reachBytes) = true) {j : Nat} {t : TypeId} {d : DataW H} (ht : ts[j]? = some t) (hd : ds[j]? = some d) : ∀ n ∈ d.weights P t, n ≤ reachBytes :=
  fun n hn => by simpa using List.all_eq_true.1 h _ (DataW.weights_mem_each ht hd n hn)
/-- A slice's length, from its weights. -/
theorem len_of_weights {t e : TypeId} {a : Option Addr} {n c fuel : Nat} {y : DataW H × List MemPlace} (ht : P.underlying t = some (.slice e)) (h : DataW.trod enc P w base spare held fuel t [.slice a n c] = some y) (hz : ∀ k ∈ y.1.weights P t, k ≤ reachBytes) :
    n * P.bytesOf e ≤ reachBytes := by
  rcases open_slice ht h with ⟨h1, _⟩ | ⟨a', len, cap, m', n', D, Pl, hcs, hb, hl, hm', hmm, hxx, hi⟩
  · simp only [List.cons.injEq, Value.slice.injEq, and_true] at h1
    obtain ⟨_, rfl, _⟩ := h1
    simp
  · simp only [List.cons.injEq, Value.slice.injEq, and_true] at hcs
    obtain ⟨_, rfl, _⟩ := hcs
    have := hz ((n + (m' - n)) * P.bytesOf e) (by rw [hxx]; simp [DataW.weights, ht])
    exact Nat.le_trans (Nat.mul_le_mul_right _ (by omega)) this
theorem open_agg6z {r : Reach} {b0 : Nat} {t : TypeId} {f0 f1 f2 f3 f4 f5 : Field} {v : Value} {d : DataW H} {p : List MemPlace} (hs : P.underlying t = some (.struct #[f0, f1, f2, f3, f4, f5])) (hone : oneCellFields P #[f0, f1, f2, f3, f4, f5] = true) (hC : P.cellsOf t = 6)
    (hv : Value.okWide P w r b0 t v) (h : DataW.Trod enc P w base spare held t v d p) :
    ∃ (v0 v1 v2 v3 v4 v5 : Value) (y0 y1 y2 y3 y4 y5 : DataW H × List MemPlace) (n : Nat), v = .agg #[v0, v1, v2, v3, v4, v5] ∧ d = .agg [y0.1, y1.1, y2.1, y3.1, y4.1, y5.1] ∧
      DataW.trod enc P w base spare held n f0.type [v0] = some y0 ∧ DataW.trod enc P w base spare held n f1.type [v1] = some y1 ∧ DataW.trod enc P w base spare held n f2.type [v2] = some y2 ∧ DataW.trod enc P w base spare held n f3.type [v3] = some y3 ∧ DataW.trod enc P w base spare held n f4.type [v4] = some y4 ∧ DataW.trod enc P w base spare held n f5.type [v5] = some y5 := by
  obtain ⟨cs, rfl, hsz⟩ := okWide_struct hs hv
  obtain ⟨l⟩ := cs
  match l, hsz.trans hC with
  | [c0, c1, c2, c3, c4, c5], _ =>
    obtain ⟨fuel, hf⟩ := h
    obtain ⟨xs, n, _, hx, _, hlen, hg⟩ := DataW.trod_struct hs hf
    obtain ⟨o0, k0⟩ := hone_of hone 0 f0 rfl
    obtain ⟨o1, k1⟩ := hone_of hone 1 f1 rfl
    obtain ⟨o2, k2⟩ := hone_of hone 2 f2 rfl
    obtain ⟨o3, k3⟩ := hone_of hone 3 f3 rfl
    obtain ⟨o4, k4⟩ := hone_of hone 4 f4 rfl
    obtain ⟨o5, k5⟩ := hone_of hone 5 f5 rfl
    match xs, hlen with
    | [y0, y1, y2, y3, y4, y5], _ =>
      exact ⟨c0, c1, c2, c3, c4, c5, y0, y1, y2, y3, y4, y5, n, rfl, congrArg Prod.fst hx, by simpa [Value.cells, o0, k0] using hg 0 f0 rfl, by simpa [Value.cells, o1, k1] using hg 1 f1 rfl, by simpa [Value.cells, o2, k2] using hg 2 f2 rfl, by simpa [Value.cells, o3, k3] using hg 3 f3 rfl, by simpa [Value.cells, o4, k4] using hg 4 f4 rfl, by simpa [Value.cells, o5, k5] using hg 5 f5 rfl⟩
theorem floatBytes : Tryz.prog.bytesOf 64 = 8 := by kernel_rfl
theorem open_subzArg {r : Reach} {b0 : Nat} {v : Value} {d : DataW H} {ps : List MemPlace} (hval : Value.okWide Tryz.prog w r b0 35 v) (hd : DataW.Trod enc Tryz.prog w base spare held 35 v d ps)
    (hz : ∀ n ∈ d.weights Tryz.prog 35, n ≤ reachBytes) :
    ∃ x : SubV, v = .agg #[.int .i64 x.s0, .int .i64 x.s1, .int .i64 x.s2, .slice x.ra x.rs.length x.rc, .slice x.sa x.ss.length x.sc, .slice x.wa x.ws.length x.wc] ∧ x.At w ∧ K.Fits x := by
  obtain ⟨c0, c1, c2, c3, c4, c5, y0, y1, y2, y3, y4, y5, m, rfl, rfl, h0, h1, h2, h3, h4, h5⟩ := open_agg6z Tryz.underlying35 (by kernel_rfl) (by kernel_rfl) hval hd
  obtain ⟨s0, e0, _⟩ := DataW.trod_int Tryz.underlying2 h0
  obtain ⟨s1, e1, _⟩ := DataW.trod_int Tryz.underlying2 h1
  obtain ⟨s2, e2, _⟩ := DataW.trod_int Tryz.underlying2 h2
  simp only [List.cons.injEq, and_true] at e0 e1 e2
  subst e0 e1 e2
  obtain ⟨ra, n1, rc, rs, rfl, rfl, k1⟩ := trod_floats h3
  obtain ⟨sa, n2, sc, ss, rfl, rfl, k2⟩ := trod_spans h4
  obtain ⟨wa, n3, wc, ws, rfl, rfl, k3⟩ := trod_floats h5
  have z3 := len_of_weights Tryz.underlying32 h3 (fun k hk => hz k (by simp only [DataW.weights, Tryz.underlying35, DataW.weightsEach, List.map_cons, List.mem_append]; simp [hk]))
  have z4 := len_of_weights Tryz.underlying33 h4 (fun k hk => hz k (by simp only [DataW.weights, Tryz.underlying35, DataW.weightsEach, List.map_cons, List.mem_append]; simp [hk]))
  have z5 := len_of_weights Tryz.underlying32 h5 (fun k hk => hz k (by simp only [DataW.weights, Tryz.underlying35, DataW.weightsEach, List.map_cons, List.mem_append]; simp [hk]))
  rw [floatBytes] at z3 z5
  rw [spanBytes] at z4
  simp only [reachBytes] at z3 z4 z5
  exact ⟨⟨s0, s1, s2, ra, rc, rs, sa, sc, ss, wa, wc, ws⟩, rfl, ⟨k1, k2, k3⟩, ⟨by show rs.length ≤ _; omega, by show ss.length ≤ _; omega, by show ws.length ≤ _; omega⟩⟩
end
end Go.Proofs.YtekmadgacepdfaaGreat
