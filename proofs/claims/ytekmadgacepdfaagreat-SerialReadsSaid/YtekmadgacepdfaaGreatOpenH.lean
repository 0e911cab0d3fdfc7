/- How a history is opened. -/
import Derived.Test.YtekmadgacepdfaaGreatMO
import Derived.Test.YtekmadgacepdfaaGreatMTD
import Derived.SizedLaws
namespace Go.Proofs.YtekmadgacepdfaaGreat
set_option linter.unusedVariables false
open Go.Joins Go.ChangeShapes Go.WideShapes Go.ChangeAt Go.RowKit Go.Deep

set_option maxRecDepth 100000
section
variable {H : Type} {enc : TypeId × Value → H} {P : Program} {w : World} {base : Nat} {spare : Nat → Bool} {held : Bool}
/-- A submission among cells. -/
theorem trod_subc {cs : List Value} {y : DataW H × List MemPlace} {n : Nat} (h : DataW.trod enc Tryz.prog w base spare held n 35 cs = some y) :
  ∃ x : SubV, cs = [.int .i64 x.s0, .int .i64 x.s1, .int .i64 x.s2, .slice x.ra x.rs.length x.rc, .slice x.sa x.ss.length x.sc, .slice x.wa x.ws.length x.wc] ∧ x.At w := by
 obtain ⟨xs, m, _, hx, hlen, hyl, hf⟩ := DataW.trod_struct Tryz.underlying35 h
 have h6 : Tryz.prog.cellsOf 35 = 6 := by kernel_rfl
 rw [h6] at hlen
 match cs, hlen with
 | [c0, c1, c2, c3, c4, c5], _ =>
  match xs, hyl with
  | [y0, y1, y2, y3, y4, y5], _ =>
   have k1 : Tryz.prog.cellsOf 2 = 1 := by kernel_rfl
   have k2 : Tryz.prog.cellsOf 32 = 1 := by kernel_rfl
   have k3 : Tryz.prog.cellsOf 33 = 1 := by kernel_rfl
   have t0 : DataW.trod enc Tryz.prog w base spare held m 2 (([c0, c1, c2, c3, c4, c5].drop 0).take (Tryz.prog.cellsOf 2)) = some y0 := hf 0 _ rfl
   have t1 : DataW.trod enc Tryz.prog w base spare held m 2 (([c0, c1, c2, c3, c4, c5].drop 1).take (Tryz.prog.cellsOf 2)) = some y1 := hf 1 _ rfl
   have t2 : DataW.trod enc Tryz.prog w base spare held m 2 (([c0, c1, c2, c3, c4, c5].drop 2).take (Tryz.prog.cellsOf 2)) = some y2 := hf 2 _ rfl
   have t3 : DataW.trod enc Tryz.prog w base spare held m 32 (([c0, c1, c2, c3, c4, c5].drop 3).take (Tryz.prog.cellsOf 32)) = some y3 := hf 3 _ rfl
   have t4 : DataW.trod enc Tryz.prog w base spare held m 33 (([c0, c1, c2, c3, c4, c5].drop 4).take (Tryz.prog.cellsOf 33)) = some y4 := hf 4 _ rfl
   have t5 : DataW.trod enc Tryz.prog w base spare held m 32 (([c0, c1, c2, c3, c4, c5].drop 5).take (Tryz.prog.cellsOf 32)) = some y5 := hf 5 _ rfl
   rw [k1] at t0 t1 t2
   rw [k2] at t3 t5
   rw [k3] at t4
   simp only [List.drop_succ_cons, List.drop_zero, List.take_succ_cons, List.take_zero] at t0 t1 t2 t3 t4 t5
   obtain ⟨s0, e0, _, _⟩ := DataW.trod_int Tryz.underlying2 t0
   obtain ⟨s1, e1, _, _⟩ := DataW.trod_int Tryz.underlying2 t1
   obtain ⟨s2, e2, _, _⟩ := DataW.trod_int Tryz.underlying2 t2
   simp only [List.cons.injEq, and_true] at e0 e1 e2
   subst e0 e1 e2
   obtain ⟨ra, n1, rc, rs, rfl, rfl, q1⟩ := trod_floats t3
   obtain ⟨sa, n2, sc, ss, rfl, rfl, q2⟩ := trod_spans t4
   obtain ⟨wa, n3, wc, ws, rfl, rfl, q3⟩ := trod_floats t5
   exact ⟨⟨s0, s1, s2, ra, rc, rs, sa, sc, ss, wa, wc, ws⟩, rfl, ⟨q1, q2, q3⟩⟩
/-- A transaction among cells. -/
theorem trod_done {cs : List Value} {y : DataW H × List MemPlace} {n : Nat} (h : DataW.trod enc Tryz.prog w base spare held n 73 cs = some y) :
  ∃ d : T.DoneV, cs = T.dEnc d ∧ d.s.At w := by
 obtain ⟨xs, m, _, hx, hlen, hyl, hf⟩ := DataW.trod_struct Tryz.underlying73 h
 have h7 : Tryz.prog.cellsOf 73 = 7 := by kernel_rfl
 rw [h7] at hlen
 match cs, hlen with
 | [c0, c1, c2, c3, c4, c5, c6], _ =>
  match xs, hyl with
  | [y0, y1], _ =>
   have k1 : Tryz.prog.cellsOf 2 = 1 := by kernel_rfl
   have k2 : Tryz.prog.cellsOf 35 = 6 := by kernel_rfl
   have t0 : DataW.trod enc Tryz.prog w base spare held m 2 (([c0, c1, c2, c3, c4, c5, c6].drop 0).take (Tryz.prog.cellsOf 2)) = some y0 := hf 0 _ rfl
   have t1 : DataW.trod enc Tryz.prog w base spare held m 35 (([c0, c1, c2, c3, c4, c5, c6].drop 1).take (Tryz.prog.cellsOf 35)) = some y1 := hf 1 _ rfl
   rw [k1] at t0
   rw [k2] at t1
   simp only [List.drop_succ_cons, List.drop_zero, List.take_succ_cons, List.take_zero] at t0 t1
   obtain ⟨s0, e0, _, _⟩ := DataW.trod_int Tryz.underlying2 t0
   simp only [List.cons.injEq, and_true] at e0
   subst e0
   obtain ⟨x, hc, hat⟩ := trod_subc t1
   refine ⟨⟨s0, x⟩, ?_, hat⟩
   unfold T.dEnc
   rw [hc]
theorem doneBytes : Tryz.prog.bytesOf 73 = 104 := by kernel_rfl
theorem open_histArg {r : Reach} {b0 : Nat} {v : Value} {d : DataW H} {ps : List MemPlace} (hval : Value.okWide Tryz.prog w r b0 67 v) (hd : DataW.Trod enc Tryz.prog w base spare held 67 v d ps)
  (hz : ∀ n ∈ d.weights Tryz.prog 67, n ≤ reachBytes) :
  ∃ a c h, v = .slice a h.length c ∧ T.HAt w a h ∧ h.length ≤ c := by
 obtain ⟨fuel, hf⟩ := hd
 obtain ⟨av, n, c, rfl⟩ := okWide_slice Tryz.underlying67 hval
 have hlen := len_of_weights Tryz.underlying67 hf hz
 rw [doneBytes] at hlen
 rcases open_slice Tryz.underlying67 hf with ⟨h0, _⟩ | ⟨a, len, cap, m, n', D, Pl, hcs, hb, hl, hm, hmm, hx, hi⟩
 ·have h0' : [Value.slice av n c] = [Value.slice none 0 0] := h0
  exact ⟨none, 0, [], (List.cons.inj h0').1, ⟨.inl rfl, fun i hi => absurd hi (Nat.not_lt_zero _), Nat.zero_le _⟩, Nat.le_refl _⟩
 ·have h7 : Tryz.prog.cellsOf 73 = 7 := by kernel_rfl
  have key : ∀ i, i < len → ∃ o : T.DoneV, (∀ t v, (T.dEnc o)[t]? = some v → w.cell? (a.add (i * 7 + t)) = some v) ∧ o.s.At w := fun i hi' => by
   obtain ⟨cs', hc, ht'⟩ := hi i (by rw [hmm]; split <;> omega)
   rw [h7] at hc
   obtain ⟨o, rfl, h1⟩ := trod_done ht'
   obtain ⟨_, hcl, hat⟩ := World.cells?_some hc
   refine ⟨o, fun t v hv => ?_, h1⟩
   have ht : t < 7 := (List.getElem?_eq_some_iff.1 hv).1
   rw [← Go.Deep.add_add, hat t ht]
   exact hv
  obtain ⟨F, hF⟩ := choose_lt key
  have at' : ∀ i, i < len → ((List.range len).map F)[i]?.getD default = F i := fun i hi' => by simp [List.getElem?_map, List.getElem?_range hi']
  have hcs' : [Value.slice av n c] = [Value.slice (some a) len cap] := hcs
  simp only [List.cons.injEq, Value.slice.injEq, and_true] at hcs'
  obtain ⟨rfl, rfl, rfl⟩ := hcs'
  refine ⟨some a, c, (List.range n).map F, by simp, ⟨?_, fun i hi' => ?_, by simp only [reachBytes] at hlen; simp; omega⟩, by simpa using hl⟩
  ·rcases Nat.eq_zero_or_pos n with hz0 | hp
   ·exact .inl (by simp [hz0])
   ·obtain ⟨bl, o, sp⟩ := a
    have h0 := (hF 0 hp).1 0 _ rfl
    have hs : sp = none := by simpa [Addr.add] using World.cell?_spot h0
    subst hs
    refine .inr ⟨bl, o, rfl, cell_lt' h0, fun i hi' t v hv => ?_⟩
    have hi2 : i < n := by simpa using hi'
    rw [at' i hi2] at hv
    have := (hF i hi2).1 t v hv
    rw [addN, ← Nat.add_assoc] at this
    exact this
  ·have hi2 : i < n := by simpa using hi'
   rw [at' i hi2]
   exact (hF i hi2).2
end
end Go.Proofs.YtekmadgacepdfaaGreat
