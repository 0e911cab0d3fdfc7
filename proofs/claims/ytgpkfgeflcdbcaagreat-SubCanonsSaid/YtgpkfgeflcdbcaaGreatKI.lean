/- The document's Canon and Same over submissions. -/
import Derived.Test.YtgpkfgeflcdbcaaGreatKH
namespace Go.Proofs.YtgpkfgeflcdbcaaGreat.K
set_option linter.unusedVariables false
open Go.RowKit Fl

theorem set1 {w : World} {g i : Nat} {T : TypeId} {cur : Array Value} (h : w.heap[g]? = some (.cells cur T (0, 0))) (v : Value) : (w.setCell ⟨g, i, none⟩ v).heap[g]? = some (.cells (cur.setIfInBounds i v) T (0, 0)) ∧ w.grownBy (w.setCell ⟨g, i, none⟩ v) (some g) := by
  rw [setCell_eq_setRow w g i _ _ _ _ h]
  exact ⟨setRow_heap w g cur _ T (0, 0) h, grownBy_setRow w g _⟩

/-- Two submissions with the same numbers and rows are the same. -/
theorem refSame04_true (s0 s1 s2 : Int) (n1 n2 n3 : Nat) (ra rb sa sb wa wb : Option Addr) (rc rd sc sd wc wd : Nat) (w : World)
    (K1 : ∀ W, Below w.heap.size w W → Calls Tryz.prog 15 #[.slice ra n1 rc, .slice rb n1 rd] W (Ret (.bool true) W))
    (K3 : ∀ W, Below w.heap.size w W → Calls Tryz.prog 15 #[.slice wa n3 wc, .slice wb n3 wd] W (Ret (.bool true) W))
    (K2 : ∀ W, Below w.heap.size w W → Calls Tryz.prog 38 #[.slice sa n2 sc, .slice sb n2 sd] W (Ret (.bool true) W)) :
    Calls Tryz.prog 14 #[.agg #[.int .i64 s0, .int .i64 s1, .int .i64 s2, .slice ra n1 rc, .slice sa n2 sc, .slice wa n3 wc], .agg #[.int .i64 s0, .int .i64 s1, .int .i64 s2, .slice rb n1 rd, .slice sb n2 sd, .slice wb n3 wd]] w (Ret (.bool true) w) := by
  go_enter Tryz.func14, Tryz.ntmps14
  go_wp2_with (first | (go_at_call 15; (with_reducible refine (K1 _ (by (repeat (first | with_reducible exact Below.refl _ _ | ((with_reducible refine Below.alloc1 ?_ ?_ _); (· first | omega | (simp; done) | (simp; omega))) | (with_reducible refine Below.drew ?_) | (with_reducible refine below_drewN' ?_ _) | ((with_reducible refine Below.setCell1 ?_ ?_ _); (· first | omega | (simp; done) | (simp; omega))) | ((with_reducible refine Below.after (by assumption) ?_ ?_); (· first | omega | (simp; done) | (simp; omega))))))).mono ?_); rintro e w1 ⟨rfl, hb1⟩; obtain ⟨hc1, hf1⟩ := bcell hb1; (try simp only [World.heap_drewN, World.cell?_drewN, World.frozen?_drewN] at hc1 hf1); have hz1 := hb1.size; (try simp at hz1); (try have hy1_0 : w.heap.size < w1.heap.size := by omega); (try have hy1_1 : w.heap.size + 1 < w1.heap.size := by omega); (try have hy1_2 : w.heap.size + 2 < w1.heap.size := by omega); (try have hy1_3 : w.heap.size + 3 < w1.heap.size := by omega); (try have hx1_0 : w.heap.size ≤ w1.heap.size := by omega); (try have hx1_1 : w.heap.size + 1 ≤ w1.heap.size := by omega); (try have hx1_2 : w.heap.size + 2 ≤ w1.heap.size := by omega)) | (go_at_call 15; (with_reducible refine (K3 _ (by (repeat (first | with_reducible exact Below.refl _ _ | ((with_reducible refine Below.alloc1 ?_ ?_ _); (· first | omega | (simp; done) | (simp; omega))) | (with_reducible refine Below.drew ?_) | (with_reducible refine below_drewN' ?_ _) | ((with_reducible refine Below.setCell1 ?_ ?_ _); (· first | omega | (simp; done) | (simp; omega))) | ((with_reducible refine Below.after (by assumption) ?_ ?_); (· first | omega | (simp; done) | (simp; omega))))))).mono ?_); rintro e w1 ⟨rfl, hb1⟩; obtain ⟨hc1, hf1⟩ := bcell hb1; (try simp only [World.heap_drewN, World.cell?_drewN, World.frozen?_drewN] at hc1 hf1); have hz1 := hb1.size; (try simp at hz1); (try have hy1_0 : w.heap.size < w1.heap.size := by omega); (try have hy1_1 : w.heap.size + 1 < w1.heap.size := by omega); (try have hy1_2 : w.heap.size + 2 < w1.heap.size := by omega); (try have hy1_3 : w.heap.size + 3 < w1.heap.size := by omega); (try have hx1_0 : w.heap.size ≤ w1.heap.size := by omega); (try have hx1_1 : w.heap.size + 1 ≤ w1.heap.size := by omega); (try have hx1_2 : w.heap.size + 2 ≤ w1.heap.size := by omega)) | (go_at_call 38; (with_reducible refine (K2 _ (by (repeat (first | with_reducible exact Below.refl _ _ | ((with_reducible refine Below.alloc1 ?_ ?_ _); (· first | omega | (simp; done) | (simp; omega))) | (with_reducible refine Below.drew ?_) | (with_reducible refine below_drewN' ?_ _) | ((with_reducible refine Below.setCell1 ?_ ?_ _); (· first | omega | (simp; done) | (simp; omega))) | ((with_reducible refine Below.after (by assumption) ?_ ?_); (· first | omega | (simp; done) | (simp; omega))))))).mono ?_); rintro e w2 ⟨rfl, hb2⟩; obtain ⟨hc2, hf2⟩ := bcell hb2; (try simp only [World.heap_drewN, World.cell?_drewN, World.frozen?_drewN] at hc2 hf2); have hz2 := hb2.size; (try simp at hz2); (try have hy2_0 : w.heap.size < w2.heap.size := by omega); (try have hy2_1 : w.heap.size + 1 < w2.heap.size := by omega); (try have hy2_2 : w.heap.size + 2 < w2.heap.size := by omega); (try have hy2_3 : w.heap.size + 3 < w2.heap.size := by omega); (try have hx2_0 : w.heap.size ≤ w2.heap.size := by omega); (try have hx2_1 : w.heap.size + 1 ≤ w2.heap.size := by omega); (try have hx2_2 : w.heap.size + 2 ≤ w2.heap.size := by omega)))
  go_ret
  exact ⟨rfl, by (repeat (first | with_reducible exact Below.refl _ _ | ((with_reducible refine Below.alloc1 ?_ ?_ _); (· first | omega | (simp; done) | (simp; omega))) | (with_reducible refine Below.drew ?_) | (with_reducible refine below_drewN' ?_ _) | ((with_reducible refine Below.setCell1 ?_ ?_ _); (· first | omega | (simp; done) | (simp; omega))) | ((with_reducible refine Below.after (by assumption) ?_ ?_); (· first | omega | (simp; done) | (simp; omega)))))⟩

theorem OwnF.ge {B g : Nat} {L : List Nat} {v : Value} {w w' : World} (h : OwnF B L v w) (hg : w.grownBy w' (some g)) (hgB : g < B) : OwnF B L v w' :=
  ⟨h.1, h.2.kept hg (.inr fun e => by have := (h.2.lt g e).1; omega)⟩
theorem OwnS.ge {B g : Nat} {G : List RK} {v : Value} {w w' : World} (h : OwnS B G v w) (hg : w.grownBy w' (some g)) (hgB : g < B) : OwnS B G v w' :=
  ⟨h.1, h.2.kept hg (.inr fun e => by have := (h.2.lt g e).1; omega)⟩
theorem OwnF.le {B B' : Nat} {L : List Nat} {v : Value} {w : World} (h : OwnF B L v w) (hB : B' ≤ B) : OwnF B' L v w := ⟨h.1, own_le h.2 hB⟩
theorem OwnS.le {B B' : Nat} {G : List RK} {v : Value} {w : World} (h : OwnS B G v w) (hB : B' ≤ B) : OwnS B' G v w := ⟨h.1, own_le h.2 hB⟩

/-- The three boxes of Canon: what came in, the result, what is being made. -/
structure CSt (w W : World) (inp res out : Array Value) : Prop where
  b : Below w.heap.size w W
  lt : w.heap.size + 1 + 1 < W.heap.size
  i : W.heap[w.heap.size]? = some (.cells inp 25 (0, 0))
  r : W.heap[w.heap.size + 1]? = some (.cells res 25 (0, 0))
  o : W.heap[w.heap.size + 1 + 1]? = some (.cells out 25 (0, 0))
theorem CSt.below {w W W' : World} {inp res out : Array Value} (h : CSt w W inp res out) (hb : Below W.heap.size W W') : CSt w W' inp res out := by
  have := h.lt
  have hz := hb.size
  have hz2 := h.b.size
  exact ⟨h.b.trans (hb.mono hz2), by omega, (hb.block _ (by omega)).trans h.i, (hb.block _ (by omega)).trans h.r, (hb.block _ h.lt).trans h.o⟩
theorem CSt.set {w W : World} {inp res out : Array Value} (h : CSt w W inp res out) (j : Nat) (v : Value) : CSt w (W.setCell ⟨w.heap.size + 1 + 1, j, none⟩ v) inp res (out.setIfInBounds j v) ∧ W.grownBy (W.setCell ⟨w.heap.size + 1 + 1, j, none⟩ v) (some (w.heap.size + 1 + 1)) := by
  obtain ⟨h1, h2⟩ := set1 (i := j) h.o v
  have := h.lt
  exact ⟨⟨h.b.grown h2 h.b.size (fun k hk => by cases hk; omega), Nat.lt_of_lt_of_le h.lt h2.size, (h2.block _ (by omega) (fun e => by have := Option.some.inj e; omega)).trans h.i, (h2.block _ (by omega) (fun e => by have := Option.some.inj e; omega)).trans h.r, h1⟩, h2⟩
theorem CSt.ci {w W : World} {inp res out : Array Value} (h : CSt w W inp res out) (j : Nat) : W.cell? ⟨w.heap.size, j, none⟩ = inp[j]? := cell_of_row W _ j inp _ (0, 0) h.i
theorem CSt.cr {w W : World} {inp res out : Array Value} (h : CSt w W inp res out) (j : Nat) : W.cell? ⟨w.heap.size + 1, j, none⟩ = res[j]? := cell_of_row W _ j res _ (0, 0) h.r
theorem CSt.co {w W : World} {inp res out : Array Value} (h : CSt w W inp res out) (j : Nat) : W.cell? ⟨w.heap.size + 1 + 1, j, none⟩ = out[j]? := cell_of_row W _ j out _ (0, 0) h.o
theorem CSt.fo {w W : World} {inp res out : Array Value} (h : CSt w W inp res out) (j : Nat) : W.frozen? ⟨w.heap.size + 1 + 1, j, none⟩ = false := by simp [World.frozen?, h.o]
theorem CSt.fr {w W : World} {inp res out : Array Value} (h : CSt w W inp res out) (j : Nat) : W.frozen? ⟨w.heap.size + 1, j, none⟩ = false := by simp [World.frozen?, h.r]
theorem heap3 (w : World) (A Z C : Obj) : (((w.alloc A).alloc Z).alloc C).heap[w.heap.size]? = some A ∧ (((w.alloc A).alloc Z).alloc C).heap[w.heap.size + 1]? = some Z ∧ (((w.alloc A).alloc Z).alloc C).heap[w.heap.size + 1 + 1]? = some C := by
  have s1 : (w.alloc A).heap.size = w.heap.size + 1 := by simp
  have s2 : ((w.alloc A).alloc Z).heap.size = w.heap.size + 1 + 1 := by simp
  have e1 := heap_alloc_new w A
  have e2 := heap_alloc_new (w.alloc A) Z
  have e3 := heap_alloc_new ((w.alloc A).alloc Z) C
  rw [s1] at e2
  rw [s2] at e3
  have b1 : Below (w.heap.size + 1) (w.alloc A) ((w.alloc A).alloc Z) := (Below.refl _ _).alloc (by omega) Z
  have b2 : Below (w.heap.size + 1 + 1) ((w.alloc A).alloc Z) (((w.alloc A).alloc Z).alloc C) := (Below.refl _ _).alloc (by omega) C
  exact ⟨(b2.block _ (by omega)).trans ((b1.block _ (by omega)).trans e1), (b2.block _ (by omega)).trans e2, e3⟩
def anyW (ss : List SpanV) (k : Nat) : Bool := (ss.take k).any wrongS
theorem any_take {ss : List SpanV} {k : Nat} {s : SpanV} (h : ss[k]? = some s) : anyW ss (k + 1) = (anyW ss k || wrongS s) := by
  unfold anyW
  rw [List.take_add_one, h, List.any_append]; simp

set_option maxHeartbeats 4000000 in
set_option maxRecDepth 100000 in
theorem refCanon_w (s0 s1 s2 : Int) (ra sa wa : Option Addr) (n1 n2 n3 rc sc wc : Nat) (ss : List SpanV) (L1 L3 : List Nat) (G : List RK) (wr : Bool) (V : Int) (w : World) (hV : V = 43 ∨ V = 3 ∨ V = 40 ∨ V = 0)
    (HN : Hid (ss.length = n2)) (HS : Hid (SAt w sa ss)) (HM : Hid (ss.any wrongS = wr))
    (Hs1 : ∀ W, Below w.heap.size w W → Calls Tryz.prog 34 #[.slice ra n1 rc] W fun e W' => ∃ v, e = .returned v ∧ OwnF W.heap.size L1 v W' ∧ Below W.heap.size W W')
    (Hs3 : ∀ W, Below w.heap.size w W → Calls Tryz.prog 34 #[.slice wa n3 wc] W fun e W' => ∃ v, e = .returned v ∧ OwnF W.heap.size L3 v W' ∧ Below W.heap.size W W')
    (HNm : ∀ W, Below w.heap.size w W → Calls Tryz.prog 36 #[.slice sa n2 sc] W fun e W' => ∃ v, e = .returned v ∧ RangesRow G v W' ∧ Below W.heap.size W W')
    (HSp : ∀ (v : Value) (W : World), RangesRow G v W → Calls Tryz.prog 35 #[v] W fun e W' => ∃ v, e = .returned v ∧ OwnS W.heap.size G v W' ∧ Below W.heap.size W W')
    (Hc : ∀ (v1 v2 v3 : Value) (W : World), OwnF w.heap.size L1 v1 W → OwnS w.heap.size G v2 W → OwnF w.heap.size L3 v3 W → Calls Tryz.prog 18 #[.agg #[.int .i64 s0, .int .i64 s1, .int .i64 s2, v1, v2, v3]] W (Ret (.int .i64 V) W)) :
    Calls Tryz.prog 13 #[.agg #[.int .i64 s0, .int .i64 s1, .int .i64 s2, .slice ra n1 rc, .slice sa n2 sc, .slice wa n3 wc]] w (CanRet w s0 s1 s2 L1 L3 G (canI wr V)) := by
  go_enter Tryz.func13, Tryz.ntmps13
  go_upto_region 2 with fail
  generalize hW0 : World.alloc _ _ = w0 at *
  have hA : Below w.heap.size w w0 := by rw [← hW0]; (repeat (first | with_reducible exact Below.refl _ _ | ((with_reducible refine Below.alloc1 ?_ ?_ _); (· first | omega | (simp; done) | (simp; omega))) | (with_reducible refine Below.drew ?_) | (with_reducible refine below_drewN' ?_ _) | ((with_reducible refine Below.setCell1 ?_ ?_ _); (· first | omega | (simp; done) | (simp; omega))) | ((with_reducible refine Below.after (by assumption) ?_ ?_); (· first | omega | (simp; done) | (simp; omega)))))
  have hz0 : w.heap.size + 1 + 1 < w0.heap.size := by rw [← hW0]; simp
  have hz01 : w.heap.size + 1 < w0.heap.size := by omega
  have hz00 : w.heap.size < w0.heap.size := by omega
  have b3 : w0.cell? ⟨w.heap.size, 3, none⟩ = some (.slice ra n1 rc) := by rw [← hW0]; simp [go_sem]
  have b4 : w0.cell? ⟨w.heap.size, 4, none⟩ = some (.slice sa n2 sc) := by rw [← hW0]; simp [go_sem]
  have b5 : w0.cell? ⟨w.heap.size, 5, none⟩ = some (.slice wa n3 wc) := by rw [← hW0]; simp [go_sem]
  have h3 := heap3 w (.cells #[.int .i64 s0, .int .i64 s1, .int .i64 s2, .slice ra n1 rc, .slice sa n2 sc, .slice wa n3 wc] 25) (.cells #[.int .i64 0, .int .i64 0, .int .i64 0, .slice none 0 0, .slice none 0 0, .slice none 0 0] 25) (.cells #[.int .i64 s0, .int .i64 s1, .int .i64 s2, .slice ra n1 rc, .slice sa n2 sc, .slice wa n3 wc] 25)
  rw [hW0] at h3
  obtain ⟨hi0, hr0, hb0⟩ := h3
  clear hW0
  have S0 : CSt w w0 #[.int .i64 s0, .int .i64 s1, .int .i64 s2, .slice ra n1 rc, .slice sa n2 sc, .slice wa n3 wc] #[.int .i64 0, .int .i64 0, .int .i64 0, .slice none 0 0, .slice none 0 0, .slice none 0 0] #[.int .i64 s0, .int .i64 s1, .int .i64 s2, .slice ra n1 rc, .slice sa n2 sc, .slice wa n3 wc] := ⟨hA, hz0, hi0, hr0, hb0⟩
  have hlt0 := S0.lt
  have HS0 := hid S0
  clear S0 hr0 hb0 hi0 b4 b5
  go_wp2_with fail
  refine (Hs1 w0 HS0.out.b).mono ?_
  rintro e w1 ⟨v1, rfl, o1, hb1⟩
  have O1 := o1
  obtain ⟨⟨a1, d1, rfl⟩, _⟩ := o1
  have S1 := HS0.out.below hb1
  have c1 : w1.cell? ⟨w.heap.size + 1 + 1, 3, none⟩ = some (.slice ra n1 rc) := S1.co 3
  have f1 := S1.fo 3
  obtain ⟨S2, g2⟩ := S1.set 3 (.slice a1 L1.length d1)
  have HO1 := hid (O1.ge g2 hlt0)
  have HS2 := hid S2
  clear S1 S2 g2 O1 HS0 b3
  go_upto_region 3 with fail
  generalize w1.setCell ⟨w.heap.size + 1 + 1, 3, none⟩ (.slice a1 L1.length d1) = w2 at *
  have hlt2 := HS2.out.lt
  have p5 : w2.cell? ⟨w.heap.size, 5, none⟩ = some (.slice wa n3 wc) := HS2.out.ci 5
  have hzi2 : w.heap.size < w2.heap.size := by omega
  clear c1 f1 hb1
  go_wp2_with fail
  refine (Hs3 w2 HS2.out.b).mono ?_
  rintro e w3 ⟨v3, rfl, o3, hb3⟩
  have O3 := o3
  obtain ⟨⟨a3, d3, rfl⟩, _⟩ := o3
  have S3 := HS2.out.below hb3
  have c3 : w3.cell? ⟨w.heap.size + 1 + 1, 5, none⟩ = some (.slice wa n3 wc) := S3.co 5
  have f3 := S3.fo 5
  obtain ⟨S4, g4⟩ := S3.set 5 (.slice a3 L3.length d3)
  have HO1' := hid ((HO1.out.below hb3).ge g4 hlt0)
  have HO3 := hid (O3.ge g4 hlt2)
  have HS4 := hid S4
  clear S3 S4 g4 O3 HS2 HO1 p5
  go_upto_region 4 with fail
  generalize w3.setCell ⟨w.heap.size + 1 + 1, 5, none⟩ (.slice a3 L3.length d3) = w4 at *
  have hlt4 := HS4.out.lt
  have p4 : w4.cell? ⟨w.heap.size, 4, none⟩ = some (.slice sa n2 sc) := HS4.out.ci 4
  have hzi4 : w.heap.size < w4.heap.size := by omega
  clear c3 f3 hb3
  go_wp2_with fail
  refine (HNm w4 HS4.out.b).mono ?_
  rintro e w5 ⟨v5, rfl, o5, hb5⟩
  have S5 := HS4.out.below hb5
  have hlt5 := S5.lt
  go_wp2_with fail
  refine (HSp v5 w5 o5).mono ?_
  rintro e w6 ⟨v2, rfl, o2, hb6⟩
  have O2 := o2
  obtain ⟨⟨a2, d2, rfl⟩, _⟩ := o2
  have S6 := S5.below hb6
  have c4 : w6.cell? ⟨w.heap.size + 1 + 1, 4, none⟩ = some (.slice sa n2 sc) := S6.co 4
  have f4 := S6.fo 4
  obtain ⟨S7, g7⟩ := S6.set 4 (.slice a2 G.length d2)
  have HP1 := hid ((((HO1'.out.below hb5).below hb6).ge g7 hlt0).le (B' := w.heap.size) (by omega))
  have HP3 := hid ((((HO3.out.below hb5).below hb6).ge g7 hlt2).le (B' := w.heap.size) (by omega))
  have HP2 := hid ((O2.ge g7 hlt5).le (B' := w.heap.size) (by omega))
  have HS7 := hid S7
  clear S5 S6 S7 g7 O2 HS4 HO1' HO3 p4 o5
  go_upto_region 5 with fail
  generalize w6.setCell ⟨w.heap.size + 1 + 1, 4, none⟩ (.slice a2 G.length d2) = w7 at *
  have q0 : w7.cell? ⟨w.heap.size + 1 + 1, 0, none⟩ = some (.int .i64 s0) := HS7.out.co 0
  have q1 : w7.cell? ⟨w.heap.size + 1 + 1, 1, none⟩ = some (.int .i64 s1) := HS7.out.co 1
  have q2 : w7.cell? ⟨w.heap.size + 1 + 1, 2, none⟩ = some (.int .i64 s2) := HS7.out.co 2
  have q3 : w7.cell? ⟨w.heap.size + 1 + 1, 3, none⟩ = some (.slice a1 L1.length d1) := HS7.out.co 3
  have q4 : w7.cell? ⟨w.heap.size + 1 + 1, 4, none⟩ = some (.slice a2 G.length d2) := HS7.out.co 4
  have q5 : w7.cell? ⟨w.heap.size + 1 + 1, 5, none⟩ = some (.slice a3 L3.length d3) := HS7.out.co 5
  clear c4 f4 hb5 hb6
  go_wp2_with fail
  refine (Hc _ _ _ w7 HP1.out HP2.out HP3.out).mono ?_
  rintro e w8 ⟨rfl, hb8⟩
  have S8 := HS7.out.below hb8
  clear q0 q1 q2 q3 q4 q5
  have hlt8 := S8.lt
  have hw8 := S8.b
  have hz8 := hw8.size
  have q0 : w8.cell? ⟨w.heap.size + 1 + 1, 0, none⟩ = some (.int .i64 s0) := S8.co 0
  have q1 : w8.cell? ⟨w.heap.size + 1 + 1, 1, none⟩ = some (.int .i64 s1) := S8.co 1
  have q2 : w8.cell? ⟨w.heap.size + 1 + 1, 2, none⟩ = some (.int .i64 s2) := S8.co 2
  have q3 : w8.cell? ⟨w.heap.size + 1 + 1, 3, none⟩ = some (.slice a1 L1.length d1) := S8.co 3
  have q4 : w8.cell? ⟨w.heap.size + 1 + 1, 4, none⟩ = some (.slice a2 G.length d2) := S8.co 4
  have q5 : w8.cell? ⟨w.heap.size + 1 + 1, 5, none⟩ = some (.slice a3 L3.length d3) := S8.co 5
  have p4 : w8.cell? ⟨w.heap.size, 4, none⟩ = some (.slice sa n2 sc) := S8.ci 4
  have y0 : w8.cell? ⟨w.heap.size + 1, 0, none⟩ = some (.int .i64 0) := S8.cr 0
  have y1 : w8.cell? ⟨w.heap.size + 1, 1, none⟩ = some (.int .i64 0) := S8.cr 1
  have y2 : w8.cell? ⟨w.heap.size + 1, 2, none⟩ = some (.int .i64 0) := S8.cr 2
  have y3 : w8.cell? ⟨w.heap.size + 1, 3, none⟩ = some (.slice none 0 0) := S8.cr 3
  have y4 : w8.cell? ⟨w.heap.size + 1, 4, none⟩ = some (.slice none 0 0) := S8.cr 4
  have y5 : w8.cell? ⟨w.heap.size + 1, 5, none⟩ = some (.slice none 0 0) := S8.cr 5
  have yf := fun j => S8.fr j
  have hs9 := set6 S8.r (.int .i64 s0) (.int .i64 s1) (.int .i64 s2) (.slice a1 L1.length d1) (.slice a2 G.length d2) (.slice a3 L3.length d3)
  have hsz := set6 S8.r (.int .i64 0) (.int .i64 0) (.int .i64 0) (.slice none 0 0) (.slice none 0 0) (.slice none 0 0)
  have HZ := hid (hw8.grown hsz.2 hz8 (fun k hk => by cases hk; omega))
  have HW9 := hid (hw8.grown hs9.2 hz8 (fun k hk => by cases hk; omega))
  have HQ1 := hid ((HP1.out.below hb8).set hs9.2 S8.r)
  have HQ2 := hid ((HP2.out.below hb8).set hs9.2 S8.r)
  have HQ3 := hid ((HP3.out.below hb8).set hs9.2 S8.r)
  have hl2 : w.heap.size + 1 < w8.heap.size := by omega
  have hl1 : w.heap.size < w8.heap.size := by omega
  clear hs9 hsz S8 HP1 HP2 HP3 HS7 hb8
  rcases hV with rfl | rfl | rfl | rfl
  · have hci : canI wr 43 = 43 := by cases wr <;> rfl
    go_wp2_with fail
    refine bodyPost_ret (v := .tuple #[.agg #[.int .i64 0, .int .i64 0, .int .i64 0, .slice none 0 0, .slice none 0 0, .slice none 0 0], .int .i64 43]) (by simp [results, Tryz.results13, go_sem, *]) rfl ⟨HZ.out, .inr ⟨by rw [hci]; decide, by rw [hci]⟩⟩
  · have hci : canI wr 3 = 3 := by cases wr <;> rfl
    go_wp2_with fail
    refine bodyPost_ret (v := .tuple #[.agg #[.int .i64 0, .int .i64 0, .int .i64 0, .slice none 0 0, .slice none 0 0, .slice none 0 0], .int .i64 3]) (by simp [results, Tryz.results13, go_sem, *]) rfl ⟨HZ.out, .inr ⟨by rw [hci]; decide, by rw [hci]⟩⟩
  · have hci : canI wr 40 = 40 := by cases wr <;> rfl
    go_wp2_with fail
    refine bodyPost_ret (v := .tuple #[.agg #[.int .i64 0, .int .i64 0, .int .i64 0, .slice none 0 0, .slice none 0 0, .slice none 0 0], .int .i64 40]) (by simp [results, Tryz.results13, go_sem, *]) rfl ⟨HZ.out, .inr ⟨by rw [hci]; decide, by rw [hci]⟩⟩
  · have hlm : n2 ≤ 9223372036854775807 := by have := HS.out.len; rw [HN.out] at this; unfold maxLen at this; omega
    go_wp2_with fail
    go_loop [6, 5] (fun iv ev => ∃ k : Nat, k ≤ n2 ∧ iv = .int .i64 k ∧ ev = .int .i64 (if anyW ss k = true then 41 else 0)) (fun iv _ => n2 - (intOf iv).toNat)
    case atStart => exact ⟨0, Nat.zero_le _, rfl, rfl⟩
    case round =>
      obtain ⟨k, hk, rfl, rfl⟩ := hrel
      by_cases hlt : k < n2
      · have hlt' : (k : Int) < (n2 : Int) := by omega
        have hil : k < ss.length := by rw [HN.out]; exact hlt
        have hx := sp_some hil
        obtain ⟨l1, l2⟩ := HS.out.lt k hil
        rcases HS.out.row with h0 | ⟨g, o, rfl, hg, hcs⟩
        · rw [h0] at hil; simp at hil
        obtain ⟨e0, e1, e2, e3⟩ := hcs k hil
        have d0 := (hw8.cell (p := ⟨g, _, none⟩) hg).trans e0
        have d1' := (hw8.cell (p := ⟨g, _, none⟩) hg).trans e1
        have hat := any_take hx
        clear e0 e1 e2 e3 hcs hil hx
        generalize ss[k]?.getD default = s at *
        have N1 := fun W => refNan_any s.lo l1 W
        have N2 := fun W => refNan_any s.hi l2 W
        have hws : wrongS s = (isNaN s.lo || isNaN s.hi) := by unfold wrongS; cases isNaN s.lo <;> cases isNaN s.hi <;> rfl
        rw [hws] at hat
        have HAT := hid hat
        clear hat hws
        cases m1 : isNaN s.lo
        · cases m2 : isNaN s.hi
          · have HA2 : Hid (anyW ss (k + 1) = anyW ss k) := hid (by rw [HAT.out, m1, m2]; simp)
            rw [m1] at N1; rw [m2] at N2
            clear m1 m2
            go_wp2_with (first | (go_at_call 37; (with_reducible refine (N1 _).mono ?_); rintro e w' ⟨rfl, rfl⟩) | (go_at_call 37; (with_reducible refine (N2 _).mono ?_); rintro e w' ⟨rfl, rfl⟩))
            go_round
            case rel => exact ⟨k + 1, by omega, by go_num, by rw [HA2.out]⟩
            case measure => simp [intOf]; omega
          · have HA2 : Hid (anyW ss (k + 1) = true) := hid (by rw [HAT.out, m1, m2]; simp)
            rw [m1] at N1; rw [m2] at N2
            clear m1 m2
            go_wp2_with (first | (go_at_call 37; (with_reducible refine (N1 _).mono ?_); rintro e w' ⟨rfl, rfl⟩) | (go_at_call 37; (with_reducible refine (N2 _).mono ?_); rintro e w' ⟨rfl, rfl⟩))
            go_round
            case rel => exact ⟨k + 1, by omega, by go_num, by rw [HA2.out]; rfl⟩
            case measure => simp [intOf]; omega
        · have HA2 : Hid (anyW ss (k + 1) = true) := hid (by rw [HAT.out, m1]; simp)
          rw [m1] at N1
          clear m1
          go_wp2_with (first | (go_at_call 37; (with_reducible refine (N1 _).mono ?_); rintro e w' ⟨rfl, rfl⟩) | (go_at_call 37; (with_reducible refine (N2 _).mono ?_); rintro e w' ⟨rfl, rfl⟩))
          go_round
          case rel => exact ⟨k + 1, by omega, by go_num, by rw [HA2.out]; rfl⟩
          case measure => simp [intOf]; omega
      · obtain rfl : k = n2 := by omega
        have hfin : anyW ss k = wr := by unfold anyW; rw [← HM.out, ← HN.out, List.take_length]
        rw [hfin]
        clear hfin HM
        cases wr
        · show Code.wp _ _ _ _ _
          simp only [Bool.false_eq_true, if_false]
          go_wp2_with fail
          refine bodyPost_ret (v := .tuple #[.agg #[.int .i64 s0, .int .i64 s1, .int .i64 s2, .slice a1 L1.length d1, .slice a2 G.length d2, .slice a3 L3.length d3], .int .i64 0]) (by simp [results, Tryz.results13, go_sem, *]) rfl ⟨HW9.out, .inl ⟨rfl, _, _, _, rfl, HQ1.out, HQ2.out, HQ3.out⟩⟩
        · simp only [if_true]
          go_wp2_with fail
          refine bodyPost_ret (v := .tuple #[.agg #[.int .i64 0, .int .i64 0, .int .i64 0, .slice none 0 0, .slice none 0 0, .slice none 0 0], .int .i64 41]) (by simp [results, Tryz.results13, go_sem, *]) rfl ⟨HZ.out, .inr ⟨by decide, rfl⟩⟩
end Go.Proofs.YtgpkfgeflcdbcaaGreat.K
