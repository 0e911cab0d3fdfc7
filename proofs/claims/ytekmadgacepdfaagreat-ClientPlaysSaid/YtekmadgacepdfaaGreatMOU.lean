/- Several texts as one: OpenU OpenZ OpenW. -/
import Derived.Test.YtekmadgacepdfaaGreatMO
import Derived.Test.YtekmadgacepdfaaGreatMUD
import Derived.Test.YtekmadgacepdfaaGreatMKH
import Derived.Test.YtekmadgacepdfaaGreatMUO
namespace Go.Proofs.YtekmadgacepdfaaGreat
set_option linter.unusedVariables false
open Go.Joins Go.ChangeShapes Go.WideShapes Go.ChangeAt Go.RowKit Go.Deep

set_option maxRecDepth 100000
section
variable {H : Type} {enc : TypeId × Value → H} {P : Program} {w : World} {base : Nat} {spare : Nat → Bool} {held : Bool}
theorem trod_ints {v : Value} {y : DataW H × List MemPlace} {fuel : Nat} (h : DataW.trod enc Tryz.prog w base spare held fuel 22 [v] = some y) : ∃ a c xs, v = .slice a xs.length c ∧ U.ZAt w a xs := by
 rcases open_slice1 Tryz.underlying22 (by kernel_rfl) h with ⟨h0, _⟩ | ⟨a, len, cap, m, n, V, D, Pl, hcs, hb, hl, hm, hmm, hx, hi⟩
 ·exact ⟨none, 0, [], by simpa using h0, ⟨.inl rfl, Nat.zero_le _⟩⟩
 ·have key : ∀ i, i < len → ∃ b : Int, V i = .int .i64 b := fun i hi' => by
   obtain ⟨b, h1, _⟩ := DataW.trod_int Tryz.underlying3 (hi i (by rw [hmm]; split <;> omega)).2
   exact ⟨b, by simpa using h1⟩
  obtain ⟨F, hF⟩ := choose_lt key
  have at' : ∀ i, i < len → ((List.range len).map F)[i]?.getD 0 = F i := fun i hi' => by simp [List.getElem?_map, List.getElem?_range hi']
  refine ⟨some a, cap, (List.range len).map F, by simpa using hcs, ?_, by simp; omega⟩
  rcases Nat.eq_zero_or_pos len with hz | hp
  ·exact .inl (by simp [hz])
  ·obtain ⟨bl, o, sp⟩ := a
   have h0 := (hi 0 (by rw [hmm]; split <;> omega)).1
   have hs : sp = none := by simpa [Addr.add] using World.cell?_spot h0
   subst hs
   refine .inr ⟨bl, o, rfl, cell_lt' h0, fun i hi' => ?_⟩
   have hi2 : i < len := by simpa using hi'
   have := (hi i (by rw [hmm]; split <;> omega)).1
   rw [at' i hi2, ← hF i hi2]
   rw [addN] at this; exact this
theorem open_intsArg {r : Reach} {b0 : Nat} {v : Value} {d : DataW H} {ps : List MemPlace} (hval : Value.okWide Tryz.prog w r b0 22 v) (hd : DataW.Trod enc Tryz.prog w base spare held 22 v d ps) :
  ∃ a c xs, v = .slice a xs.length c ∧ U.ZAt w a xs := by
 obtain ⟨fuel, hf⟩ := hd
 obtain ⟨a, n, c, rfl⟩ := okWide_slice Tryz.underlying22 hval
 exact trod_ints hf
theorem open_int64UArg {r : Reach} {b0 : Nat} {v : Value} {d : DataW H} {ps : List MemPlace} (hval : Value.okWide Tryz.prog w r b0 2 v) (hd : DataW.Trod enc Tryz.prog w base spare held 2 v d ps) :
  ∃ n, v = .int .i64 n ∧ (-9223372036854775808 ≤ n ∧ n ≤ 9223372036854775807) := by
 obtain ⟨b, h1, _, _, h2⟩ := open_int Tryz.underlying2 hval hd
 refine ⟨b, h1, ?_⟩
 simp only [Lit.wf, Bool.and_eq_true] at h2
 exact ⟨of_decide_eq_true h2.1, of_decide_eq_true h2.2⟩
end
end Go.Proofs.YtekmadgacepdfaaGreat
namespace Go.Proofs.YtekmadgacepdfaaGreat
set_option linter.unusedVariables false
open Go.Joins Go.ChangeShapes Go.WideShapes Go.ChangeAt Go.RowKit Go.Deep

set_option maxRecDepth 100000
section
variable {H : Type} {enc : TypeId × Value → H} {P : Program} {w : World} {base : Nat} {spare : Nat → Bool} {held : Bool}
theorem floatBytes : Tryz.prog.bytesOf 64 = 8 := by kernel_rfl
end
end Go.Proofs.YtekmadgacepdfaaGreat
namespace Go.Proofs.YtekmadgacepdfaaGreat
set_option linter.unusedVariables false
open Go.Joins Go.ChangeShapes Go.WideShapes Go.ChangeAt Go.RowKit Go.Deep

set_option maxRecDepth 100000
section
variable {H : Type} {enc : TypeId × Value → H} {P : Program} {w : World} {base : Nat} {spare : Nat → Bool} {held : Bool}
theorem weights_all {e : TypeId} : ∀ {l : List (DataW H)} {d : DataW H}, d ∈ l → ∀ n ∈ d.weights P e, n ∈ DataW.weightsAll P e l
 | x :: l, d, h, n, hn => by
  unfold DataW.weightsAll
  rcases List.mem_cons.1 h with rfl | h
  ·exact List.mem_append_left _ hn
  ·exact List.mem_append_right _ (weights_all h n hn)
theorem one_int {t : TypeId} {c : Value} {y : DataW H × List MemPlace} {n : Nat} (ht : P.underlying t = some (.int .i64)) (h : DataW.trod enc P w base spare held n t [c] = some y) : ∃ b, c = .int .i64 b ∧ (-9223372036854775808 ≤ b ∧ b ≤ 9223372036854775807) := by
 obtain ⟨b, e, _, hw⟩ := DataW.trod_int ht h
 simp only [List.cons.injEq, and_true] at e
 simp only [Lit.wf, Bool.and_eq_true] at hw
 exact ⟨b, e, of_decide_eq_true hw.1, of_decide_eq_true hw.2⟩
theorem trod_subz {cs : List Value} {y : DataW H × List MemPlace} {n : Nat} (h : DataW.trod enc Tryz.prog w base spare held n 35 cs = some y) (hz : ∀ k ∈ y.1.weights Tryz.prog 35, k ≤ reachBytes) :
  ∃ x : SubV, cs = [.int .i64 x.s0, .int .i64 x.s1, .int .i64 x.s2, .slice x.ra x.rs.length x.rc, .slice x.sa x.ss.length x.sc, .slice x.wa x.ws.length x.wc] ∧ x.At w ∧ K.Fits x := by
 obtain ⟨xs, m, _, hx, hlen, hyl, hf⟩ := DataW.trod_struct Tryz.underlying35 h
 have h6 : Tryz.prog.cellsOf 35 = 6 := by kernel_rfl
 rw [h6] at hlen
 match cs, hlen with
 | [c0, c1, c2, c3, c4, c5], _ =>
  match xs, hyl with
  | [y0, y1, y2, y3, y4, y5], _ =>
   have k1 : Tryz.prog.cellsOf 2 = 1 := by kernel_rfl
   have k2 : Tryz.prog.cellsOf 32 = 1 := by kernel_rfl
   have k3 : Tryz.prog.cellsOf 33 = 1 := by kernel_rfl
   have t0 : DataW.trod enc Tryz.prog w base spare held m 2 (([c0, c1, c2, c3, c4, c5].drop 0).take (Tryz.prog.cellsOf 2)) = some y0 := hf 0 _ rfl
   have t1 : DataW.trod enc Tryz.prog w base spare held m 2 (([c0, c1, c2, c3, c4, c5].drop 1).take (Tryz.prog.cellsOf 2)) = some y1 := hf 1 _ rfl
   have t2 : DataW.trod enc Tryz.prog w base spare held m 2 (([c0, c1, c2, c3, c4, c5].drop 2).take (Tryz.prog.cellsOf 2)) = some y2 := hf 2 _ rfl
   have t3 : DataW.trod enc Tryz.prog w base spare held m 32 (([c0, c1, c2, c3, c4, c5].drop 3).take (Tryz.prog.cellsOf 32)) = some y3 := hf 3 _ rfl
   have t4 : DataW.trod enc Tryz.prog w base spare held m 33 (([c0, c1, c2, c3, c4, c5].drop 4).take (Tryz.prog.cellsOf 33)) = some y4 := hf 4 _ rfl
   have t5 : DataW.trod enc Tryz.prog w base spare held m 32 (([c0, c1, c2, c3, c4, c5].drop 5).take (Tryz.prog.cellsOf 32)) = some y5 := hf 5 _ rfl
   rw [k1] at t0 t1 t2
   rw [k2] at t3 t5
   rw [k3] at t4
   simp only [List.drop_succ_cons, List.drop_zero, List.take_succ_cons, List.take_zero] at t0 t1 t2 t3 t4 t5
   obtain ⟨s0, rfl, _⟩ := one_int Tryz.underlying2 t0
   obtain ⟨s1, rfl, _⟩ := one_int Tryz.underlying2 t1
   obtain ⟨s2, rfl, _⟩ := one_int Tryz.underlying2 t2
   obtain ⟨ra, n1, rc, rs, rfl, rfl, q1⟩ := trod_floats t3
   obtain ⟨sa, n2, sc, ss, rfl, rfl, q2⟩ := trod_spans t4
   obtain ⟨wa, n3, wc, ws, rfl, rfl, q3⟩ := trod_floats t5
   subst hx
   have z3 := len_of_weights Tryz.underlying32 t3 (fun k hk => hz k (by simp only [DataW.weights, Tryz.underlying35, DataW.weightsEach, List.map_cons, List.mem_append]; simp [hk]))
   have z4 := len_of_weights Tryz.underlying33 t4 (fun k hk => hz k (by simp only [DataW.weights, Tryz.underlying35, DataW.weightsEach, List.map_cons, List.mem_append]; simp [hk]))
   have z5 := len_of_weights Tryz.underlying32 t5 (fun k hk => hz k (by simp only [DataW.weights, Tryz.underlying35, DataW.weightsEach, List.map_cons, List.mem_append]; simp [hk]))
   rw [floatBytes] at z3 z5
   rw [spanBytes] at z4
   simp only [reachBytes] at z3 z4 z5
   exact ⟨⟨s0, s1, s2, ra, rc, rs, sa, sc, ss, wa, wc, ws⟩, rfl, ⟨q1, q2, q3⟩, ⟨by simp only; omega, by simp only; omega, by simp only; omega⟩⟩
theorem trod_op21 {cs : List Value} {y : DataW H × List MemPlace} {n : Nat} (h : DataW.trod enc Tryz.prog w base spare held n 40 cs = some y) (hz : ∀ k ∈ y.1.weights Tryz.prog 40, k ≤ reachBytes) :
  ∃ o : U.OpV, cs = U.encOp o ∧ (o.s.At w ∧ K.Fits o.s) ∧ -9223372036854775808 ≤ o.seq ∧ o.seq ≤ 9223372036854775807 := by
 obtain ⟨xs, m, _, hx, hlen, hyl, hf⟩ := DataW.trod_struct Tryz.underlying40 h
 have h12 : Tryz.prog.cellsOf 40 = 12 := by kernel_rfl
 rw [h12] at hlen
 match cs, hlen with
 | [c0, c1, c2, c3, c4, c5, c6, c7, c8, c9, c10, c11], _ =>
  match xs, hyl with
  | [y0, y1, y2, y3, y4, y5], _ =>
   have k0 : Tryz.prog.cellsOf 3 = 1 := by kernel_rfl
   have k1 : Tryz.prog.cellsOf 2 = 1 := by kernel_rfl
   have k2 : Tryz.prog.cellsOf 35 = 6 := by kernel_rfl
   have k3 : Tryz.prog.cellsOf 38 = 2 := by kernel_rfl
   have k4 : Tryz.prog.cellsOf 36 = 1 := by kernel_rfl
   have t0 : DataW.trod enc Tryz.prog w base spare held m 3 (([c0, c1, c2, c3, c4, c5, c6, c7, c8, c9, c10, c11].drop 0).take (Tryz.prog.cellsOf 3)) = some y0 := hf 0 _ rfl
   have t1 : DataW.trod enc Tryz.prog w base spare held m 35 (([c0, c1, c2, c3, c4, c5, c6, c7, c8, c9, c10, c11].drop 1).take (Tryz.prog.cellsOf 35)) = some y1 := hf 1 _ rfl
   have t2 : DataW.trod enc Tryz.prog w base spare held m 2 (([c0, c1, c2, c3, c4, c5, c6, c7, c8, c9, c10, c11].drop 7).take (Tryz.prog.cellsOf 2)) = some y2 := hf 2 _ rfl
   have t3 : DataW.trod enc Tryz.prog w base spare held m 38 (([c0, c1, c2, c3, c4, c5, c6, c7, c8, c9, c10, c11].drop 8).take (Tryz.prog.cellsOf 38)) = some y3 := hf 3 _ rfl
   have t4 : DataW.trod enc Tryz.prog w base spare held m 36 (([c0, c1, c2, c3, c4, c5, c6, c7, c8, c9, c10, c11].drop 10).take (Tryz.prog.cellsOf 36)) = some y4 := hf 4 _ rfl
   have t5 : DataW.trod enc Tryz.prog w base spare held m 3 (([c0, c1, c2, c3, c4, c5, c6, c7, c8, c9, c10, c11].drop 11).take (Tryz.prog.cellsOf 3)) = some y5 := hf 5 _ rfl
   rw [k0] at t0 t5
   rw [k2] at t1
   rw [k1] at t2
   rw [k3] at t3
   rw [k4] at t4
   simp only [List.drop_succ_cons, List.drop_zero, List.take_succ_cons, List.take_zero] at t0 t1 t2 t3 t4 t5
   obtain ⟨kd, rfl, _⟩ := one_int Tryz.underlying3 t0
   obtain ⟨sq, rfl, hsq⟩ := one_int Tryz.underlying2 t2
   obtain ⟨er, rfl, _⟩ := one_int Tryz.underlying36 t4
   obtain ⟨ld, rfl, _⟩ := one_int Tryz.underlying3 t5
   subst hx
   obtain ⟨x, hxs, hat, hfit⟩ := trod_subz t1 (fun k hk => hz k (by simp only [DataW.weights, Tryz.underlying40, DataW.weightsEach, List.map_cons, List.mem_append]; simp [hk]))
   simp only [List.cons.injEq, and_true] at hxs
   obtain ⟨rfl, rfl, rfl, rfl, rfl, rfl⟩ := hxs
   obtain ⟨zs, m2, _, _, _, hzl, hg⟩ := DataW.trod_struct Tryz.underlying38 t3
   match zs, hzl with
   | [z0, z1], _ =>
    have u0 : DataW.trod enc Tryz.prog w base spare held m2 36 (([c8, c9].drop 0).take (Tryz.prog.cellsOf 36)) = some z0 := hg 0 _ rfl
    have u1 : DataW.trod enc Tryz.prog w base spare held m2 2 (([c8, c9].drop 1).take (Tryz.prog.cellsOf 2)) = some z1 := hg 1 _ rfl
    rw [k4] at u0
    rw [k1] at u1
    simp only [List.drop_succ_cons, List.drop_zero, List.take_succ_cons, List.take_zero] at u0 u1
    obtain ⟨cd, rfl, _⟩ := one_int Tryz.underlying36 u0
    obtain ⟨nm, rfl, _⟩ := one_int Tryz.underlying2 u1
    exact ⟨⟨kd, x, sq, cd, nm, er, ld⟩, rfl, ⟨hat, hfit⟩, hsq⟩
theorem opBytes21 : Tryz.prog.bytesOf 40 = 144 := by kernel_rfl
theorem open_ops21Arg {r : Reach} {b0 : Nat} {v : Value} {d : DataW H} {ps : List MemPlace} (hval : Value.okWide Tryz.prog w r b0 23 v) (hd : DataW.Trod enc Tryz.prog w base spare held 23 v d ps)
  (hz : ∀ n ∈ d.weights Tryz.prog 23, n ≤ reachBytes) :
  ∃ a c xs, v = .slice a xs.length c ∧ U.OAt w a xs := by
 obtain ⟨fuel, hf⟩ := hd
 obtain ⟨av, n, c, rfl⟩ := okWide_slice Tryz.underlying23 hval
 have hlen := len_of_weights Tryz.underlying23 hf hz
 rw [opBytes21] at hlen
 rcases open_slice Tryz.underlying23 hf with ⟨h0, _⟩ | ⟨a, len, cap, m, n', D, Pl, hcs, hb, hl, hm, hmm, hx, hi⟩
 ·have h0' : [Value.slice av n c] = [Value.slice none 0 0] := h0
  exact ⟨none, 0, [], (List.cons.inj h0').1, ⟨.inl rfl, fun i hi => absurd hi (Nat.not_lt_zero _), fun i hi => absurd hi (Nat.not_lt_zero _), Nat.zero_le _⟩⟩
 ·have hx1 : d = _ := congrArg Prod.fst hx
  simp only at hx1
  have h12 : Tryz.prog.cellsOf 40 = 12 := by kernel_rfl
  have key : ∀ i, i < len → ∃ o : U.OpV, (∀ t v, (U.encOp o)[t]? = some v → w.cell? (a.add (i * 12 + t)) = some v) ∧ (o.s.At w ∧ K.Fits o.s) ∧ -9223372036854775808 ≤ o.seq ∧ o.seq ≤ 9223372036854775807 := fun i hi' => by
   obtain ⟨cs', hc, ht'⟩ := hi i (by rw [hmm]; split <;> omega)
   rw [h12] at hc
   obtain ⟨o, rfl, h1, h2⟩ := trod_op21 ht' (fun k hk => hz k (by
    rw [hx1]
    simp only [DataW.weights, Tryz.underlying23]
    refine List.mem_cons_of_mem _ (List.mem_append_left _ (weights_all (d := D i) (List.mem_map.2 ⟨i, List.mem_range.2 hi', rfl⟩) k hk))))
   obtain ⟨_, hcl, hat⟩ := World.cells?_some hc
   refine ⟨o, fun t v hv => ?_, h1, h2⟩
   have ht : t < 12 := (List.getElem?_eq_some_iff.1 hv).1
   rw [← Go.Deep.add_add, hat t ht]
   exact hv
  obtain ⟨F, hF⟩ := choose_lt key
  have at' : ∀ i, i < len → ((List.range len).map F)[i]?.getD default = F i := fun i hi' => by simp [List.getElem?_map, List.getElem?_range hi']
  have hcs' : [Value.slice av n c] = [Value.slice (some a) len cap] := hcs
  simp only [List.cons.injEq, Value.slice.injEq, and_true] at hcs'
  obtain ⟨rfl, rfl, rfl⟩ := hcs'
  refine ⟨some a, c, (List.range n).map F, by simp, ⟨?_, fun i hi' => ?_, fun i hi' => ?_, by simp only [reachBytes] at hlen; simp; omega⟩⟩
  ·rcases Nat.eq_zero_or_pos n with hz0 | hp
   ·exact .inl (by simp [hz0])
   ·obtain ⟨bl, o, sp⟩ := a
    have h0 := (hF 0 hp).1 0 _ rfl
    have hs : sp = none := by simpa [Addr.add] using World.cell?_spot h0
    subst hs
    refine .inr ⟨bl, o, rfl, cell_lt' h0, fun i hi' t v hv => ?_⟩
    have hi2 : i < n := by simpa using hi'
    rw [at' i hi2] at hv
    have := (hF i hi2).1 t v hv
    rw [addN, ← Nat.add_assoc] at this
    exact this
  ·have hi2 : i < n := by simpa using hi'
   rw [at' i hi2]
   exact (hF i hi2).2.1
  ·have hi2 : i < n := by simpa using hi'
   rw [at' i hi2]
   exact (hF i hi2).2.2
end
end Go.Proofs.YtekmadgacepdfaaGreat
