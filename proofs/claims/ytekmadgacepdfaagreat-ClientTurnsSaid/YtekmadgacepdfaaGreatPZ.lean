/- The document's Bytes. -/
import Derived.Test.YtekmadgacepdfaaGreatPY
import Derived.Test.YtekmadgacepdfaaGreatMPE
import Derived.Test.YtekmadgacepdfaaGreatMNC
namespace Go.Proofs.YtekmadgacepdfaaGreat.P
set_option linter.unusedVariables false
open Go.RowKit Fl
set_option linter.unusedSimpArgs false

theorem ls0 {ms : List Value} (h : ms.length = 0) : ms = [] := List.eq_nil_of_length_eq_zero h
theorem ls1 {ms : List Value} (h : ms.length = 1) : ∃ a, ms = [a] := by
  match ms, h with
  | [a], _ => exact ⟨a, rfl⟩
theorem ls2 {ms : List Value} (h : ms.length = 2) : ∃ a b, ms = [a, b] := by
  match ms, h with
  | [a, b], _ => exact ⟨a, b, rfl⟩
theorem ls3 {ms : List Value} (h : ms.length = 3) : ∃ a b c, ms = [a, b, c] := by
  match ms, h with
  | [a, b, c], _ => exact ⟨a, b, c, rfl⟩
theorem ls4 {ms : List Value} (h : ms.length = 4) : ∃ a b c d, ms = [a, b, c, d] := by
  match ms, h with
  | [a, b, c, d], _ => exact ⟨a, b, c, d, rfl⟩
theorem ls5 {ms : List Value} (h : ms.length = 5) : ∃ a b c d e, ms = [a, b, c, d, e] := by
  match ms, h with
  | [a, b, c, d, e], _ => exact ⟨a, b, c, d, e, rfl⟩
/-- A row of bytes of one's own, from block B on. -/
def OwnB (B : Nat) (v : Value) (L : List Nat) (w : World) : Prop := ∃ a c, v = .slice a L.length c ∧ w.ownsRow B 5 1 (.slice a L.length c) L.length (bCells L)
theorem OwnB.below {B C : Nat} {v : Value} {L : List Nat} {w w' : World} (h : OwnB B v L w) (hb : Below C w w') (hC : w.heap.size ≤ C) : OwnB B v L w' := by
  obtain ⟨a, c, h1, h2⟩ := h
  exact ⟨a, c, h1, h2.kept (K.grown_of_below (hb.mono hC)) (by cases (Value.slice a L.length c).ownBlock <;> simp)⟩
/-- How far the three numbers are. -/
def NumsR (Y : World) (A B C D E : List Nat) : List Value → World → Prop
  | [], X => X = Y
  | [v0], X => OwnB Y.heap.size v0 A X ∧ Below Y.heap.size Y X
  | [v0, v1], X => (∃ W, OwnB Y.heap.size v0 A W ∧ Y.heap.size ≤ W.heap.size ∧ OwnB W.heap.size v1 B X ∧ Below W.heap.size W X) ∧ Below Y.heap.size Y X
  | [_, _, v2], X => OwnB Y.heap.size v2 C X ∧ Below Y.heap.size Y X
  | [_, _, v2, v3], X => (∃ W, OwnB Y.heap.size v2 C W ∧ Y.heap.size ≤ W.heap.size ∧ OwnB W.heap.size v3 D X ∧ Below W.heap.size W X) ∧ Below Y.heap.size Y X
  | [_, _, _, _, v4], X => OwnB Y.heap.size v4 E X ∧ Below Y.heap.size Y X
  | _, _ => False
theorem NumsR.b {Y X : World} {A B C D E : List Nat} : ∀ {ms : List Value}, NumsR Y A B C D E ms X → Below Y.heap.size Y X
  | [], h => by cases h; exact Below.refl _ _
  | [_], h => h.2
  | [_, _], h => h.2
  | [_, _, _], h => h.2
  | [_, _, _, _], h => h.2
  | [_, _, _, _, _], h => h.2
  | _ :: _ :: _ :: _ :: _ :: _ :: _, h => h.elim
set_option maxHeartbeats 1000000 in
set_option maxRecDepth 100000 in
theorem docBytes_any (x : SubV) (w : World) (h : x.At w) (hck : K.SubV.check x = 0) :
    Calls Tryz.prog 45 #[.agg #[.int .i64 x.s0, .int .i64 x.s1, .int .i64 x.s2, .slice x.ra x.rs.length x.rc, .slice x.sa x.ss.length x.sc, .slice x.wa x.ws.length x.wc]] w (BRet (packB (valsOf x)) w) := by
  obtain ⟨⟨D0, D1, D2, ⟨l1, _⟩, ⟨l2, _⟩, ⟨l3, _⟩⟩, _⟩ := right_D hck
  simp only [toD, List.length_map] at D0 D1 D2 l1 l2 l3
  have HB : Hid (packB (valsOf x) = numB x.s0 ++ numB x.s1 ++ numB x.s2 ++ keysB x.rs ++ numB x.ss.length ++ x.ss.flatMap (fun s => keyB (codeN s.lo) ++ keyB (codeN s.hi)) ++ keysB x.ws) := hid (by
    rw [packB_dB]
    simp only [dB, toD, rowK, rowS, keysB, List.length_map, List.flatMap_map, List.append_assoc])
  rw [HB.out]
  obtain ⟨R, hR0⟩ : ∃ R, R = numB x.s0 ++ numB x.s1 ++ numB x.s2 ++ keysB x.rs ++ numB x.ss.length ++ x.ss.flatMap (fun s => keyB (codeN s.lo) ++ keyB (codeN s.hi)) ++ keysB x.ws := ⟨_, rfl⟩
  rw [← hR0]
  have HR0 := hid hR0
  clear hR0
  have HX := hid h; have HL1 := hid l1; have HL2 := hid l2; have HL3 := hid l3; have HD0 := hid D0; have HD1 := hid D1; have HD2 := hid D2
  clear HB h l1 l2 l3 D0 D1 D2 hck
  go_enter Tryz.func45, Tryz.ntmps45
  go_upto_region 1 with fail
  generalize hW1 : World.alloc _ _ = w1 at *
  have hA : Below w.heap.size w w1 := by rw [← hW1]; (repeat (first | with_reducible exact Below.refl _ _ | ((with_reducible refine Below.alloc1 ?_ ?_ _); (· first | omega | (simp; done) | (simp; omega))) | (with_reducible refine Below.drew ?_) | (with_reducible refine below_drewN' ?_ _) | ((with_reducible refine Below.setCell1 ?_ ?_ _); (· first | omega | (simp; done) | (simp; omega))) | ((with_reducible refine Below.after (by assumption) ?_ ?_); (· first | omega | (simp; done) | (simp; omega)))))
  have hz1 : w.heap.size < w1.heap.size := by rw [← hW1]; simp
  have q1 : w1.heap[w.heap.size]? = some (.cells #[.int .i64 x.s0, .int .i64 x.s1, .int .i64 x.s2, .slice x.ra x.rs.length x.rc, .slice x.sa x.ss.length x.sc, .slice x.wa x.ws.length x.wc] 35 (0, 0)) := by rw [← hW1]; simpa using heap_alloc_new w _
  clear hW1
  have BX := hid fun W (hb : Below w1.heap.size w1 W) => box6 ((hb.block _ hz1).trans q1)
  have AX := hid fun W (hb : Below w1.heap.size w1 W) => HX.out.below (hA.trans (hb.mono hA.size))
  obtain ⟨Y0, hY0⟩ : ∃ Y : World, Y = { w1 with drawn := w1.drawn + 1 } := ⟨_, rfl⟩
  have hb0 : Below w1.heap.size w1 Y0 := by rw [hY0]; exact Below.drew (Below.refl _ w1)
  have z0 : Y0.heap.size = w1.heap.size := by rw [hY0]
  have HY0 := hid hY0; have HB0 := hid hb0; have HZ0 := hid z0
  have toW := hid fun X (hb : Below Y0.heap.size Y0 X) => hb0.trans (hb.mono (Nat.le_of_eq z0.symm))
  clear hY0 hb0 z0 q1
  obtain ⟨A, hA0⟩ : ∃ L, L = numB x.s0 := ⟨_, rfl⟩
  obtain ⟨B, hB0⟩ : ∃ L, L = numB x.s1 := ⟨_, rfl⟩
  obtain ⟨D, hD0⟩ : ∃ L, L = numB x.s2 := ⟨_, rfl⟩
  obtain ⟨C, hC0⟩ : ∃ L, L = A ++ B := ⟨_, rfl⟩
  obtain ⟨E, hE0⟩ : ∃ L, L = C ++ D := ⟨_, rfl⟩
  have NA : ∀ W, Calls Tryz.prog 81 #[.int .i64 x.s0] W (BRet A W) := fun W => by rw [hA0]; exact docNum_any x.s0 W HD0.out
  have NB : ∀ W, Calls Tryz.prog 81 #[.int .i64 x.s1] W (BRet B W) := fun W => by rw [hB0]; exact docNum_any x.s1 W HD1.out
  have ND : ∀ W, Calls Tryz.prog 81 #[.int .i64 x.s2] W (BRet D W) := fun W => by rw [hD0]; exact docNum_any x.s2 W HD2.out
  have LA : A.length ≤ 10 := by rw [hA0]; exact numB_len HD0.out
  have LB : B.length ≤ 10 := by rw [hB0]; exact numB_len HD1.out
  have LD : D.length ≤ 10 := by rw [hD0]; exact numB_len HD2.out
  have LC : C.length ≤ 20 := by rw [hC0, List.length_append]; omega
  have LE : E.length ≤ 30 := by rw [hE0, List.length_append]; omega
  have YB : ∀ y ∈ B, y < 256 := by rw [hB0]; exact numB_byte _
  have YD : ∀ y ∈ D, y < 256 := by rw [hD0]; exact numB_byte _
  have HEQ : Hid (numB x.s0 ++ numB x.s1 ++ numB x.s2 = E) := hid (by rw [hE0, hC0, hA0, hB0, hD0])
  have HC0 := hid hC0; have HE0 := hid hE0
  have HNA := hid NA; have HNB := hid NB; have HND := hid ND; have HYB := hid YB; have HYD := hid YD
  clear NA NB ND YB YD hA0 hB0 hC0 hD0 hE0
  refine wp_region_chainV [(0, fun _ => .pointer (some ⟨w.heap.size, 0, none⟩)), (0, fun _ => .int .i64 x.s0), (1, fun ms => ms.getD 0 undef), (0, fun _ => .pointer (some ⟨w.heap.size, 1, none⟩)), (0, fun _ => .int .i64 x.s1), (2, fun ms => ms.getD 1 undef), (3, fun ms => ms.getD 2 undef), (0, fun _ => .pointer (some ⟨w.heap.size, 2, none⟩)), (0, fun _ => .int .i64 x.s2), (4, fun ms => ms.getD 3 undef), (5, fun ms => ms.getD 4 undef), (5, fun ms => ms.getD 4 undef)] (NumsR Y0 A B C D E) (fun _ _ => False) [2, 5, 6, 9, 10] rfl (by kernel_rfl) (by kernel_rfl) (by kernel_rfl) (by decide) (by decide) HY0.out.symm ?_ ?_ ?_
  · simp only [StepsV, List.nil_append, List.cons_append, Nat.zero_add, Nat.reduceAdd]
    refine ⟨?p0, ?l0, ?c0, ?p1, ?l1, ?c1, ?j1, ?p2, ?l2, ?c2, ?j2, ?mv, trivial⟩
    case p0 =>
      intro ms X g1 g2 hx
      simp only [moreV, gotV, List.mem_cons, List.not_mem_nil, Nat.reduceEqDiff, or_false, or_true, or_self, if_true, if_false, Option.isNone_some, Bool.false_eq_true, List.nil_append, List.cons_append]
      generalize hR : (fun v w' => (_ → v = _) ∧ _) = RR
      have HR := hid hR
      have HXX := hid hx
      clear hR g1 g2 hx
      try simp only [putsFrom, Act.put, List.setIfInBounds_toArray, List.set_cons_zero, List.set_cons_succ, Nat.zero_add, Nat.reduceAdd, uv, List.getElem?_cons_zero, List.getElem?_cons_succ, List.take_succ_cons, List.take_zero, List.getD_cons_zero, List.getD_cons_succ]
      go_wp2_with fail
      have hR := HR.out
      subst hR
      exact ⟨rfl, fun _ => rfl, HXX.out⟩
    case l0 =>
      intro ms X g1 g2 hx
      have hb := toW.out X hx.b
      obtain ⟨b0, b1, b2, b3, b4, b5⟩ := BX.out X hb
      simp only [moreV, gotV, List.mem_cons, List.not_mem_nil, Nat.reduceEqDiff, or_false, or_true, or_self, if_true, if_false, Option.isNone_some, Bool.false_eq_true, List.nil_append, List.cons_append]
      generalize hR : (fun v w' => (_ → v = _) ∧ _) = RR
      have HR := hid hR
      have HXX := hid hx
      clear hR g1 g2 hx hb b3 b4 b5
      try simp only [putsFrom, Act.put, List.setIfInBounds_toArray, List.set_cons_zero, List.set_cons_succ, Nat.zero_add, Nat.reduceAdd, uv, List.getElem?_cons_zero, List.getElem?_cons_succ, List.take_succ_cons, List.take_zero, List.getD_cons_zero, List.getD_cons_succ]
      go_wp2_with fail
      have hR := HR.out
      subst hR
      exact ⟨rfl, fun _ => rfl, HXX.out⟩
    case c0 =>
      intro ms X g1 g2 hx
      have hl : ms.length = 0 := Nat.le_antisymm (Nat.le_trans g2 (by decide +kernel)) (Nat.le_trans (by decide +kernel) g1)
      obtain rfl := ls0 hl
      obtain rfl : Y0 = X := Eq.symm hx
      simp only [moreV, gotV, List.mem_cons, List.not_mem_nil, Nat.reduceEqDiff, or_false, or_true, or_self, if_true, if_false, Option.isNone_some, Bool.false_eq_true, List.nil_append, List.cons_append]
      generalize hR : (fun v w' => (_ → v = _) ∧ _) = RR
      have HR := hid hR
      clear hR g1 g2 hl
      simp only [putsFrom, Act.put, List.setIfInBounds_toArray, List.set_cons_zero, List.set_cons_succ, Nat.zero_add, Nat.reduceAdd, uv, List.getElem?_cons_zero, List.getElem?_cons_succ, List.take_succ_cons, List.take_zero, List.getD_cons_zero, List.getD_cons_succ]
      have HC := hid (HNA.out Y0)
      go_wp2_with fail
      refine HC.out.mono ?_
      rintro e X2 ⟨a, c, rfl, ho, hb⟩
      have HE : Hid (NumsR Y0 A B C D E [.slice a A.length c] X2) := hid ⟨⟨a, c, rfl, ho⟩, hb⟩
      clear HC
      go_wp2_with fail
      have hR := HR.out
      subst hR
      exact ⟨rfl, fun _ => rfl, HE.out⟩
    case p1 =>
      intro ms X g1 g2 hx
      simp only [moreV, gotV, List.mem_cons, List.not_mem_nil, Nat.reduceEqDiff, or_false, or_true, or_self, if_true, if_false, Option.isNone_some, Bool.false_eq_true, List.nil_append, List.cons_append]
      generalize hR : (fun v w' => (_ → v = _) ∧ _) = RR
      have HR := hid hR
      have HXX := hid hx
      clear hR g1 g2 hx
      try simp only [putsFrom, Act.put, List.setIfInBounds_toArray, List.set_cons_zero, List.set_cons_succ, Nat.zero_add, Nat.reduceAdd, uv, List.getElem?_cons_zero, List.getElem?_cons_succ, List.take_succ_cons, List.take_zero, List.getD_cons_zero, List.getD_cons_succ]
      go_wp2_with fail
      have hR := HR.out
      subst hR
      exact ⟨rfl, fun _ => rfl, HXX.out⟩
    case l1 =>
      intro ms X g1 g2 hx
      have hb := toW.out X hx.b
      obtain ⟨b0, b1, b2, b3, b4, b5⟩ := BX.out X hb
      simp only [moreV, gotV, List.mem_cons, List.not_mem_nil, Nat.reduceEqDiff, or_false, or_true, or_self, if_true, if_false, Option.isNone_some, Bool.false_eq_true, List.nil_append, List.cons_append]
      generalize hR : (fun v w' => (_ → v = _) ∧ _) = RR
      have HR := hid hR
      have HXX := hid hx
      clear hR g1 g2 hx hb b3 b4 b5
      try simp only [putsFrom, Act.put, List.setIfInBounds_toArray, List.set_cons_zero, List.set_cons_succ, Nat.zero_add, Nat.reduceAdd, uv, List.getElem?_cons_zero, List.getElem?_cons_succ, List.take_succ_cons, List.take_zero, List.getD_cons_zero, List.getD_cons_succ]
      go_wp2_with fail
      have hR := HR.out
      subst hR
      exact ⟨rfl, fun _ => rfl, HXX.out⟩
    case c1 =>
      intro ms X g1 g2 hx
      have hl : ms.length = 1 := Nat.le_antisymm (Nat.le_trans g2 (by decide +kernel)) (Nat.le_trans (by decide +kernel) g1)
      obtain ⟨v0, rfl⟩ := ls1 hl
      obtain ⟨h0, hb0⟩ := hx
      simp only [moreV, gotV, List.mem_cons, List.not_mem_nil, Nat.reduceEqDiff, or_false, or_true, or_self, if_true, if_false, Option.isNone_some, Bool.false_eq_true, List.nil_append, List.cons_append]
      generalize hR : (fun v w' => (_ → v = _) ∧ _) = RR
      have HR := hid hR
      clear hR g1 g2 hl
      simp only [putsFrom, Act.put, List.setIfInBounds_toArray, List.set_cons_zero, List.set_cons_succ, Nat.zero_add, Nat.reduceAdd, uv, List.getElem?_cons_zero, List.getElem?_cons_succ, List.take_succ_cons, List.take_zero, List.getD_cons_zero, List.getD_cons_succ]
      have HC := hid (HNB.out X)
      go_wp2_with fail
      refine HC.out.mono ?_
      rintro e X2 ⟨a, c, rfl, ho, hb⟩
      have HE : Hid (NumsR Y0 A B C D E [v0, .slice a B.length c] X2) := hid ⟨⟨X, h0, hb0.size, ⟨a, c, rfl, ho⟩, hb⟩, hb0.trans (hb.mono hb0.size)⟩
      clear HC
      go_wp2_with fail
      have hR := HR.out
      subst hR
      exact ⟨rfl, fun _ => rfl, HE.out⟩
    case j1 =>
      intro ms X g1 g2 hx
      have hl : ms.length = 2 := Nat.le_antisymm (Nat.le_trans g2 (by decide +kernel)) (Nat.le_trans (by decide +kernel) g1)
      obtain ⟨v0, v1, rfl⟩ := ls2 hl
      obtain ⟨⟨W, ⟨a0, c0, rfl, ho0⟩, hzW, ⟨a1, c1, rfl, ho1⟩, hbW⟩, hbX⟩ := hx
      simp only [moreV, gotV, List.mem_cons, List.not_mem_nil, Nat.reduceEqDiff, or_false, or_true, or_self, if_true, if_false, Option.isNone_some, Bool.false_eq_true, List.nil_append, List.cons_append]
      generalize hR : (fun v w' => (_ → v = _) ∧ _) = RR
      have HR := hid hR
      clear hR g1 g2 hl
      simp only [putsFrom, Act.put, List.setIfInBounds_toArray, List.set_cons_zero, List.set_cons_succ, Nat.zero_add, Nat.reduceAdd, uv, List.getElem?_cons_zero, List.getElem?_cons_succ, List.take_succ_cons, List.take_zero, List.getD_cons_zero, List.getD_cons_succ]
      have HC := hid (show Calls _ _ _ _ (JB _ C X) from (by rw [HC0.out]; exact join_new Y0.heap.size a0 c0 _ A a1 c1 _ B W.heap.size W X rfl rfl ho0 hzW (Nat.le_refl _) ho1 hbW HYB.out (by omega)))
      go_wp2_with fail
      refine HC.out.mono ?_
      rintro e X2 ⟨a, c, rfl, ho, hb⟩
      have HE : Hid (NumsR Y0 A B C D E [.slice a0 A.length c0, .slice a1 B.length c1, .slice a C.length c] X2) := hid ⟨⟨a, c, rfl, ho⟩, hbX.trans hb⟩
      clear HC
      go_wp2_with fail
      have hR := HR.out
      subst hR
      exact ⟨rfl, fun _ => rfl, HE.out⟩
    case p2 =>
      intro ms X g1 g2 hx
      simp only [moreV, gotV, List.mem_cons, List.not_mem_nil, Nat.reduceEqDiff, or_false, or_true, or_self, if_true, if_false, Option.isNone_some, Bool.false_eq_true, List.nil_append, List.cons_append]
      generalize hR : (fun v w' => (_ → v = _) ∧ _) = RR
      have HR := hid hR
      have HXX := hid hx
      clear hR g1 g2 hx
      try simp only [putsFrom, Act.put, List.setIfInBounds_toArray, List.set_cons_zero, List.set_cons_succ, Nat.zero_add, Nat.reduceAdd, uv, List.getElem?_cons_zero, List.getElem?_cons_succ, List.take_succ_cons, List.take_zero, List.getD_cons_zero, List.getD_cons_succ]
      go_wp2_with fail
      have hR := HR.out
      subst hR
      exact ⟨rfl, fun _ => rfl, HXX.out⟩
    case l2 =>
      intro ms X g1 g2 hx
      have hb := toW.out X hx.b
      obtain ⟨b0, b1, b2, b3, b4, b5⟩ := BX.out X hb
      simp only [moreV, gotV, List.mem_cons, List.not_mem_nil, Nat.reduceEqDiff, or_false, or_true, or_self, if_true, if_false, Option.isNone_some, Bool.false_eq_true, List.nil_append, List.cons_append]
      generalize hR : (fun v w' => (_ → v = _) ∧ _) = RR
      have HR := hid hR
      have HXX := hid hx
      clear hR g1 g2 hx hb b3 b4 b5
      try simp only [putsFrom, Act.put, List.setIfInBounds_toArray, List.set_cons_zero, List.set_cons_succ, Nat.zero_add, Nat.reduceAdd, uv, List.getElem?_cons_zero, List.getElem?_cons_succ, List.take_succ_cons, List.take_zero, List.getD_cons_zero, List.getD_cons_succ]
      go_wp2_with fail
      have hR := HR.out
      subst hR
      exact ⟨rfl, fun _ => rfl, HXX.out⟩
    case c2 =>
      intro ms X g1 g2 hx
      have hl : ms.length = 3 := Nat.le_antisymm (Nat.le_trans g2 (by decide +kernel)) (Nat.le_trans (by decide +kernel) g1)
      obtain ⟨v0, v1, v2, rfl⟩ := ls3 hl
      obtain ⟨h0, hb0⟩ := hx
      simp only [moreV, gotV, List.mem_cons, List.not_mem_nil, Nat.reduceEqDiff, or_false, or_true, or_self, if_true, if_false, Option.isNone_some, Bool.false_eq_true, List.nil_append, List.cons_append]
      generalize hR : (fun v w' => (_ → v = _) ∧ _) = RR
      have HR := hid hR
      clear hR g1 g2 hl
      simp only [putsFrom, Act.put, List.setIfInBounds_toArray, List.set_cons_zero, List.set_cons_succ, Nat.zero_add, Nat.reduceAdd, uv, List.getElem?_cons_zero, List.getElem?_cons_succ, List.take_succ_cons, List.take_zero, List.getD_cons_zero, List.getD_cons_succ]
      have HC := hid (HND.out X)
      go_wp2_with fail
      refine HC.out.mono ?_
      rintro e X2 ⟨a, c, rfl, ho, hb⟩
      have HE : Hid (NumsR Y0 A B C D E [v0, v1, v2, .slice a D.length c] X2) := hid ⟨⟨X, h0, hb0.size, ⟨a, c, rfl, ho⟩, hb⟩, hb0.trans (hb.mono hb0.size)⟩
      clear HC
      go_wp2_with fail
      have hR := HR.out
      subst hR
      exact ⟨rfl, fun _ => rfl, HE.out⟩
    case j2 =>
      intro ms X g1 g2 hx
      have hl : ms.length = 4 := Nat.le_antisymm (Nat.le_trans g2 (by decide +kernel)) (Nat.le_trans (by decide +kernel) g1)
      obtain ⟨v0, v1, v2, v3, rfl⟩ := ls4 hl
      obtain ⟨⟨W, ⟨a0, c0, rfl, ho0⟩, hzW, ⟨a1, c1, rfl, ho1⟩, hbW⟩, hbX⟩ := hx
      simp only [moreV, gotV, List.mem_cons, List.not_mem_nil, Nat.reduceEqDiff, or_false, or_true, or_self, if_true, if_false, Option.isNone_some, Bool.false_eq_true, List.nil_append, List.cons_append]
      generalize hR : (fun v w' => (_ → v = _) ∧ _) = RR
      have HR := hid hR
      clear hR g1 g2 hl
      simp only [putsFrom, Act.put, List.setIfInBounds_toArray, List.set_cons_zero, List.set_cons_succ, Nat.zero_add, Nat.reduceAdd, uv, List.getElem?_cons_zero, List.getElem?_cons_succ, List.take_succ_cons, List.take_zero, List.getD_cons_zero, List.getD_cons_succ]
      have HC := hid (show Calls _ _ _ _ (JB _ E X) from (by rw [HE0.out]; exact join_new Y0.heap.size a0 c0 _ C a1 c1 _ D W.heap.size W X rfl rfl ho0 hzW (Nat.le_refl _) ho1 hbW HYD.out (by omega)))
      go_wp2_with fail
      refine HC.out.mono ?_
      rintro e X2 ⟨a, c, rfl, ho, hb⟩
      have HE : Hid (NumsR Y0 A B C D E [v0, v1, .slice a0 C.length c0, .slice a1 D.length c1, .slice a E.length c] X2) := hid ⟨⟨a, c, rfl, ho⟩, hbX.trans hb⟩
      clear HC
      go_wp2_with fail
      have hR := HR.out
      subst hR
      exact ⟨rfl, fun _ => rfl, HE.out⟩
    case mv =>
      intro ms X g1 g2 hx
      have hl : ms.length = 5 := Nat.le_antisymm (Nat.le_trans g2 (by decide +kernel)) (Nat.le_trans (by decide +kernel) g1)
      obtain ⟨v0, v1, v2, v3, v4, rfl⟩ := ls5 hl
      simp only [moreV, gotV, List.mem_cons, List.not_mem_nil, Nat.reduceEqDiff, or_false, or_true, or_self, if_true, if_false, Option.isNone_some, Bool.false_eq_true, List.nil_append, List.cons_append]
      generalize hR : (fun v w' => (_ → v = _) ∧ _) = RR
      have HR := hid hR
      have HXX := hid hx
      clear hR g1 g2 hx hl
      simp only [putsFrom, Act.put, List.setIfInBounds_toArray, List.set_cons_zero, List.set_cons_succ, Nat.zero_add, Nat.reduceAdd, uv, List.getElem?_cons_zero, List.getElem?_cons_succ, List.take_succ_cons, List.take_zero, List.getD_cons_zero, List.getD_cons_succ]
      go_wp2_with fail
      have hR := HR.out
      subst hR
      exact ⟨rfl, fun _ => rfl, HXX.out⟩
  · intro ms X hl hx
    obtain ⟨v0, v1, v2, v3, v4, rfl⟩ := ls5 hl
    obtain ⟨⟨a1, c1, rfl, ho1⟩, hbX⟩ := hx
    have hX := toW.out X hbX
    simp only [putsFrom, Act.put, List.setIfInBounds_toArray, List.set_cons_zero, List.set_cons_succ, Nat.zero_add, Nat.reduceAdd, uv, List.getElem?_cons_zero, List.getElem?_cons_succ, List.take_succ_cons, List.take_zero, List.getD_cons_zero, List.getD_cons_succ]
    clear hl
    obtain ⟨E2, hE2⟩ : ∃ L, L = E ++ keysB x.rs := ⟨_, rfl⟩
    obtain ⟨E3, hE3⟩ : ∃ L, L = E2 ++ numB x.ss.length := ⟨_, rfl⟩
    have hzY := HZ0.out
    have hzX := hbX.size
    have LK1 := keysB_len x.rs (by have := HL1.out; omega)
    have LK3 := keysB_len x.ws (by have := HL3.out; omega)
    have LE2 : E2.length ≤ 200 := by rw [hE2, List.length_append]; have := HL1.out; omega
    have NDS : NumD (x.ss.length : Int) := by have := HL2.out; exact ⟨by omega, by omega⟩
    have LS := numB_len NDS
    have LE3 : E3.length ≤ 210 := by rw [hE3, List.length_append]; omega
    have HK := hid (docKeys_any x.ra x.rc _ x.rs X rfl (AX.out X hX).r (by have := HL1.out; omega))
    have HNS := hid (fun W => docNum_any x.ss.length W NDS)
    have HE2 := hid hE2; have HE3 := hid hE3
    have HLK := hid (And.intro LK1 LK3)
    have HLS := hid LS
    obtain ⟨b0, b1, b2, b3, b4, b5⟩ := BX.out X hX
    clear hE2 hE3 b0 b1 b2 b5 NDS LS LK1 LK3
    go_wp2_with fail
    refine HK.out.mono ?_
    rintro e X2 ⟨a2, c2, rfl, ho2, hb2⟩
    have HJ := hid (show Calls _ _ _ _ (JB _ E2 X2) from (by rw [HE2.out]; exact join_new Y0.heap.size a1 c1 _ E a2 c2 _ (keysB x.rs) X.heap.size X X2 rfl rfl ho1 hzX (Nat.le_refl _) ho2 hb2 (keysB_byte _) (by have := HLK.out.1; have := HL1.out; omega)))
    have hz2 := hb2.size
    have hX2 := hX.trans (hb2.mono (by omega))
    clear ho1 ho2 b3 b4
    generalize (keysB x.rs).length = m2 at *
    go_wp2_with fail
    refine HJ.out.mono ?_
    rintro e X3 ⟨a3, c3, rfl, ho3, hb3⟩
    have hz3 := hb3.size
    have hX3 := hX2.trans (hb3.mono (by omega))
    obtain ⟨b0, b1, b2, b3, b4, b5⟩ := BX.out X3 hX3
    clear HJ HK b0 b1 b2 b3 b5
    go_wp2_with fail
    refine (HNS.out X3).mono ?_
    rintro e X4 ⟨a4, c4, rfl, ho4, hb4⟩
    have HJ := hid (show Calls _ _ _ _ (JB _ E3 X4) from (by rw [HE3.out]; exact join_new Y0.heap.size a3 c3 _ E2 a4 c4 _ (numB x.ss.length) X3.heap.size X3 X4 rfl rfl ho3 (by omega) (Nat.le_refl _) ho4 hb4 (numB_byte _) (by have := HLS.out; omega)))
    have hz4 := hb4.size
    have hX4 := hX3.trans (hb4.mono (by omega))
    clear ho3 ho4 b4
    generalize (numB x.ss.length).length = m4 at *
    go_wp2_with fail
    refine HJ.out.mono ?_
    rintro e X5 ⟨a5, c5, rfl, ho5, hb5⟩
    have hz5 := hb5.size
    have hX5 := hX4.trans (hb5.mono (by omega))
    clear HJ HNS
    have HO5 := hid ho5; have HX5 := hid hX5
    clear ho5 hX hX2 hX3 hX4 hX5 hb2 hb3 hb4 hb5 hz2 hz3 hz4 hz5 hbX hzX
    generalize hq0 : E3.length = q0 at *
    have HQ0 := hid hq0
    clear hq0
    go_upto_region 5 with fail
    go_loopw [3, 4] (fun t3 t4 wr => ∃ (i q : Nat) (L : List Nat) (a' : Option Addr) (c' : Nat), t3 = .slice a' q c' ∧ t4 = .int .i64 (i : Nat) ∧ i ≤ x.ss.length ∧ Hid (L.length = q) ∧ Hid (q ≤ 210 + 16 * i) ∧ Hid (L = E3 ++ (x.ss.take i).flatMap (fun s => keyB (codeN s.lo) ++ keyB (codeN s.hi))) ∧ Hid (wr.ownsRow Y0.heap.size 5 1 (.slice a' q c') q (bCells L)) ∧ Hid (Below w1.heap.size w1 wr)) (fun _ t4 _ => x.ss.length - (intOf t4).toNat)
    case atStart => exact ⟨0, q0, E3, _, _, rfl, rfl, Nat.zero_le _, HQ0, hid (by omega), hid (by simp), HO5, HX5⟩
    case round =>
      obtain ⟨i, q, L, a', c', rfl, rfl, hi, HQ, HQL, HL, HW, HB⟩ := hrel
      obtain ⟨b0, b1, b2, b3, b4, b5⟩ := BX.out wr HB.out
      have hzr := HB.out.size
      have hs8 : x.ss.length ≤ 8 := HL2.out
      by_cases hlt : i < x.ss.length
      · have hlt' : (i : Int) < (x.ss.length : Int) := by omega
        have hsat := HX.out.s
        rcases hsat.row with h0 | ⟨gb, o, ha, hbl, hcl⟩
        · rw [h0] at hlt; simp at hlt
        obtain ⟨k0, k1, _, _⟩ := hcl i hlt
        have KW := hid fun W (hb : Below w1.heap.size w1 W) => (hA.trans (hb.mono hA.size)).cell (p := ⟨gb, o + i * 4 + 1, none⟩) hbl
        have k0 := ((hA.trans (HB.out.mono hA.size)).cell (p := ⟨gb, o + i * 4, none⟩) hbl).trans k0
        obtain ⟨kl, kh⟩ := hsat.lt i hlt
        have hy := sp_some hlt
        generalize x.ss[i]?.getD default = y at *
        obtain ⟨L1, hL1⟩ : ∃ L1, L1 = L ++ keyB (codeN y.lo) := ⟨_, rfl⟩
        obtain ⟨L2, hL2⟩ : ∃ L2, L2 = L1 ++ keyB (codeN y.hi) := ⟨_, rfl⟩
        have HLL : Hid (L2 = E3 ++ (x.ss.take (i + 1)).flatMap (fun s => keyB (codeN s.lo) ++ keyB (codeN s.hi))) := hid (by rw [hL2, hL1, HL.out, List.take_add_one, hy, List.flatMap_append]; simp)
        have hN1 : L1.length = q + 8 := by rw [hL1, List.length_append, HQ.out, keyB_len]
        have hN2 : L2.length = q + 16 := by rw [hL2, List.length_append, hN1, keyB_len]
        have HL1' := hid hL1; have HL2' := hid hL2; have HN1 := hid hN1; have HN2 := hid hN2
        have hsa := ha
        clear hL1 hL2 hN1 hN2 hsat hcl hy HL
        have HKL := hid (docKey_any y.lo wr kl)
        have HKH := hid (fun W => docKey_any y.hi W kh)
        have KK := hid k1; have HSA := hid ha
        rw [ha] at b4
        clear k1 hbl b0 b1 b2 b3 b5 ha hsa kl kh
        go_upto_region 7 with fail
        go_wp2_with fail
        refine HKL.out.mono ?_
        rintro e V2 ⟨a2, c2, rfl, ho2, hb2⟩
        have HJ := hid (show Calls _ _ _ _ (JB _ L1 V2) from (by rw [HL1'.out]; exact join_new Y0.heap.size a' c' q L a2 c2 _ _ wr.heap.size wr V2 HQ.out rfl HW.out (by omega) (Nat.le_refl _) ho2 hb2 (keyB_byte _) (by rw [keyB_len]; have := HQL.out; have := HL2.out; omega)))
        have hz2 := hb2.size
        have hV2 := HB.out.trans (hb2.mono (by omega))
        clear ho2 k0 b4
        generalize (keyB (codeN y.lo)).length = m2 at *
        go_wp2_with fail
        refine HJ.out.mono ?_
        rintro e V3 ⟨a3, c3, rfl, ho3, hb3⟩
        have hz3 := hb3.size
        have hV3 := hV2.trans (hb3.mono (by omega))
        obtain ⟨b0, b1, b2, b3, b4, b5⟩ := BX.out V3 hV3
        have k1 := (KW.out V3 hV3).trans KK.out
        rw [HSA.out] at b4
        have HO3 := hid ho3
        clear HJ hV2 hb2 hb3 b0 b1 b2 b3 b5 ho3
        generalize hq1 : L1.length = q1 at *
        have HQ1 := hid hq1
        clear hq1
        go_wp2_with fail
        refine (HKH.out V3).mono ?_
        rintro e V4 ⟨a4, c4, rfl, ho4, hb4⟩
        have HJ := hid (show Calls _ _ _ _ (JB _ L2 V4) from (by rw [HL2'.out]; exact join_new Y0.heap.size a3 c3 q1 L1 a4 c4 _ _ V3.heap.size V3 V4 HQ1.out rfl HO3.out (by omega) (Nat.le_refl _) ho4 hb4 (keyB_byte _) (by rw [keyB_len]; have := HN1.out; have := HQL.out; have := HL2.out; omega)))
        have hz4 := hb4.size
        have hV4 := hV3.trans (hb4.mono (by omega))
        clear ho4 k1 b4
        generalize (keyB (codeN y.hi)).length = m3 at *
        go_wp2_with fail
        refine HJ.out.mono ?_
        rintro e V5 ⟨a5, c5, rfl, ho5, hb5⟩
        have HV5 := hid (hV4.trans (hb5.mono (by omega)))
        have HO5 := hid ho5
        clear HJ hb4 hb5 hV3 hV4 ho5
        generalize hq2 : L2.length = q2 at *
        have HQ2 := hid hq2
        have HQ3 : Hid (q2 ≤ 210 + 16 * (i + 1)) := hid (by have := HN2.out; have := HQL.out; omega)
        clear hq2
        go_wp2_with fail
        go_roundw
        case rel => exact ⟨i + 1, q2, L2, a5, c5, rfl, by go_num, by omega, HQ2, HQ3, HLL, HO5, HV5⟩
        case measure => simp [intOf]; omega
      · obtain rfl : i = x.ss.length := by omega
        have hge : ¬ (x.ss.length : Int) < (x.ss.length : Int) := by omega
        have hL := HL.out
        rw [List.take_length] at hL
        have HR1 : Hid (L ++ keysB x.ws = R) := hid (by rw [HR0.out, hL, HE3.out, HE2.out, HEQ.out])
        have HK := hid (docKeys_any x.wa x.wc _ x.ws wr rfl (AX.out wr HB.out).w (by have := HL3.out; omega))
        clear hL HL b0 b1 b2 b3
        go_upto_region 9 with fail
        go_wp2_with fail
        refine HK.out.mono ?_
        rintro e V2 ⟨a2, c2, rfl, ho2, hb2⟩
        have HJ := hid (show Calls _ _ _ _ (JB _ R V2) from (by rw [← HR1.out]; exact join_new Y0.heap.size a' c' q L a2 c2 _ (keysB x.ws) wr.heap.size wr V2 HQ.out rfl HW.out (by omega) (Nat.le_refl _) ho2 hb2 (keysB_byte _) (by have := HLK.out.2; have := HL3.out; have := HQL.out; have := HL2.out; omega)))
        have hz2 := hb2.size
        have hV2 := HB.out.trans (hb2.mono (by omega))
        clear ho2 b4 b5
        generalize (keysB x.ws).length = m2 at *
        go_wp2_with fail
        refine HJ.out.mono ?_
        rintro e V3 ⟨a3, c3, rfl, ho3, hb3⟩
        have hV3 := hA.trans ((hV2.trans (hb3.mono (by omega))).mono hA.size)
        have hR := K.own_le ho3 (show w.heap.size ≤ Y0.heap.size by omega)
        clear HJ HK
        generalize hq4 : R.length = q4 at *
        have HQ4 := hid hq4
        clear hq4
        go_wp2_with fail
        go_ret
        refine ⟨a3, c3, ?_, ?_, hV3⟩
        · show Ending.returned (.slice a3 q4 c3) = .returned (.slice a3 R.length c3)
          rw [HQ4.out]
        · rw [HQ4.out]; exact hR
  · exact fun _ _ _ _ hx => hx.elim
end Go.Proofs.YtekmadgacepdfaaGreat.P
