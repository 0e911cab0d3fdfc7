/- The walk of sub.Check. -/
import Derived.Test.YtgpkfgeflcdbcaaGreatKC
import Derived.Test.YtgpkfgeflcdbcaaGreatMR
import Derived.Test.YtgpkfgeflcdbcaaGreatNoteG
import Derived.Deep.CutBlock
namespace Go.Proofs.YtgpkfgeflcdbcaaGreat.K
set_option linter.unusedVariables false
set_option linter.unusedSimpArgs false
open Go.RowKit Fl

def okN (n m : Int) : Bool := decide (m ≤ n) && decide (n ≤ 1099511627776)
theorem number_any (n m : Int) (v : Bool) (hv : okN n m = v) (w : World) :
    Calls Tryz.prog 95 #[.int .i64 n, .int .i64 m] w fun e w' => e = .returned (.bool v) ∧ w = w' := by
  subst hv
  unfold okN
  cases h1 : decide (m ≤ n)
  · go_enter Tryz.func95, Tryz.ntmps95
    go_wp2
    go_ret
    exact ⟨rfl, rfl⟩
  · go_enter Tryz.func95, Tryz.ntmps95
    go_wp2
    go_ret
    exact ⟨rfl, rfl⟩

def subVal (s0 s1 s2 : Int) (ra sa wa : Option Addr) (n1 n2 n3 rc sc wc : Nat) : Value := .agg #[.int .i64 s0, .int .i64 s1, .int .i64 s2, .slice ra n1 rc, .slice sa n2 sc, .slice wa n3 wc]
theorem numbers_any (s0 s1 s2 : Int) (ra sa wa : Option Addr) (n1 n2 n3 rc sc wc : Nat) (v : Bool) (hv : (okN s0 1 && okN s1 1 && okN s2 0) = v) (w : World) :
    Calls Tryz.prog 59 #[.agg #[.int .i64 s0, .int .i64 s1, .int .i64 s2, .slice ra n1 rc, .slice sa n2 sc, .slice wa n3 wc]] w (Ret (.bool v) w) := by
  subst hv
  cases h1 : okN s0 1 <;> cases h2 : okN s1 1 <;> cases h3 : okN s2 0
  all_goals
    have H1 := fun W => number_any s0 1 _ h1 W
    have H2 := fun W => number_any s1 1 _ h2 W
    have H3 := fun W => number_any s2 0 _ h3 W
    clear h1 h2 h3
    go_enter Tryz.func59, Tryz.ntmps59
    go_wp2_with (first | (go_at_call 95; (with_reducible refine (H1 _).mono ?_); rintro e w' ⟨rfl, rfl⟩) | (go_at_call 95; (with_reducible refine (H2 _).mono ?_); rintro e w' ⟨rfl, rfl⟩) | (go_at_call 95; (with_reducible refine (H3 _).mono ?_); rintro e w' ⟨rfl, rfl⟩))
    go_ret
    exact ⟨rfl, by (repeat (first | with_reducible exact Below.refl _ _ | ((with_reducible refine Below.alloc1 ?_ ?_ _); (· first | omega | (simp; done) | (simp; omega))) | (with_reducible refine Below.drew ?_) | (with_reducible refine below_drewN' ?_ _) | ((with_reducible refine Below.setCell1 ?_ ?_ _); (· first | omega | (simp; done) | (simp; omega))) | ((with_reducible refine Below.after (by assumption) ?_ ?_); (· first | omega | (simp; done) | (simp; omega)))))⟩
theorem many_any (s0 s1 s2 : Int) (ra sa wa : Option Addr) (n1 n2 n3 rc sc wc : Nat) (v : Bool) (hv : (decide (16 < n1) || decide (8 < n2) || decide (16 < n3)) = v) (w : World) :
    Calls Tryz.prog 60 #[.agg #[.int .i64 s0, .int .i64 s1, .int .i64 s2, .slice ra n1 rc, .slice sa n2 sc, .slice wa n3 wc]] w (Ret (.bool v) w) := by
  subst hv
  cases h1 : decide (16 < n1) <;> cases h2 : decide (8 < n2) <;> cases h3 : decide (16 < n3)
  all_goals
    simp only [decide_eq_true_eq, decide_eq_false_iff_not] at h1 h2 h3
    have g1 := h1; have g2 := h2; have g3 := h3
    (try replace g1 : (16 : Int) < (n1 : Int) := by omega)
    (try replace g1 : ¬ (16 : Int) < (n1 : Int) := by omega)
    (try replace g2 : (8 : Int) < (n2 : Int) := by omega)
    (try replace g2 : ¬ (8 : Int) < (n2 : Int) := by omega)
    (try replace g3 : (16 : Int) < (n3 : Int) := by omega)
    (try replace g3 : ¬ (16 : Int) < (n3 : Int) := by omega)
    clear h1 h2 h3
    go_enter Tryz.func60, Tryz.ntmps60
    go_wp2
    go_ret
    exact ⟨rfl, by (repeat (first | with_reducible exact Below.refl _ _ | ((with_reducible refine Below.alloc1 ?_ ?_ _); (· first | omega | (simp; done) | (simp; omega))) | (with_reducible refine Below.drew ?_) | (with_reducible refine below_drewN' ?_ _) | ((with_reducible refine Below.setCell1 ?_ ?_ _); (· first | omega | (simp; done) | (simp; omega))) | ((with_reducible refine Below.after (by assumption) ?_ ?_); (· first | omega | (simp; done) | (simp; omega)))))⟩

def SubV.nb (x : SubV) : Bool := okN x.s0 1 && okN x.s1 1 && okN x.s2 0
def SubV.mb (x : SubV) : Bool := decide (16 < x.rs.length) || decide (8 < x.ss.length) || decide (16 < x.ws.length)
def ordF (xs : List Nat) : Bool := decide (xs = bits (fsort xs))
def ordS (ss : List SpanV) : Bool := decide (ss = (refAllN [] (N.forms ss)).map N.RK.raw)
def hasE (ss : List SpanV) : Bool := ss.any fun s => s.rg.isNone
/-- The number of the error, as it should be. -/
def checkI (nb mb a1 a2 em o1 o2 o3 : Bool) : Int := if nb = false then 43 else if mb = true then 3 else if (a1 || a2) = true then 40 else if em = true then 41 else if (o1 && o2 && o3) = true then 0 else 42
def SubV.check (x : SubV) : Int := checkI (SubV.nb x) (SubV.mb x) (x.rs.any isNaN) (x.ws.any isNaN) (hasE x.ss) (ordF x.rs) (ordF x.ws) (ordS x.ss)
/-- A row of the forms G. -/
def FormsRow (G : List RK) (v : Value) (w : World) : Prop := ∃ a c, v = .slice a G.length c ∧ SAt w a (G.map N.RK.raw)
theorem FormsRow.below {G : List RK} {v : Value} {w w' : World} (h : FormsRow G v w) (hb : Below w.heap.size w w') : FormsRow G v w' := by
  obtain ⟨a, c, h1, h2⟩ := h
  exact ⟨a, c, h1, h2.below hb⟩

set_option maxHeartbeats 2000000 in
set_option maxRecDepth 100000 in
theorem check_w (s0 s1 s2 : Int) (ra sa wa : Option Addr) (n1 n2 n3 rc sc wc : Nat) (G : List RK) (nb mb a1 a2 em o1 o2 o3 : Bool) (w : World)
    (Hn : ∀ W, Calls Tryz.prog 59 #[.agg #[.int .i64 s0, .int .i64 s1, .int .i64 s2, .slice ra n1 rc, .slice sa n2 sc, .slice wa n3 wc]] W (Ret (.bool nb) W))
    (Hm : ∀ W, Calls Tryz.prog 60 #[.agg #[.int .i64 s0, .int .i64 s1, .int .i64 s2, .slice ra n1 rc, .slice sa n2 sc, .slice wa n3 wc]] W (Ret (.bool mb) W))
    (Ha1 : ∀ W, Below w.heap.size w W → Calls Tryz.prog 61 #[.slice ra n1 rc, .func (.func 62) #[] #[]] W (Ret (.bool a1) W))
    (Ha2 : ∀ W, Below w.heap.size w W → Calls Tryz.prog 61 #[.slice wa n3 wc, .func (.func 62) #[] #[]] W (Ret (.bool a2) W))
    (He : ∀ W, Below w.heap.size w W → Calls Tryz.prog 31 #[.slice sa n2 sc, .func (.func 63) #[] #[]] W (Ret (.bool em) W))
    (Ho1 : mb = false → ∀ W, Below w.heap.size w W → Calls Tryz.prog 64 #[.slice ra n1 rc] W (Ret (.bool o1) W))
    (Ho2 : mb = false → ∀ W, Below w.heap.size w W → Calls Tryz.prog 64 #[.slice wa n3 wc] W (Ret (.bool o2) W))
    (HNm : mb = false → ∀ W, Below w.heap.size w W → Calls Tryz.prog 30 #[.slice sa n2 sc] W fun e W' => ∃ v, e = .returned v ∧ FormsRow G v W' ∧ Below W.heap.size W W')
    (HEq : ∀ (v : Value) (W : World), FormsRow G v W → Below w.heap.size w W → Calls Tryz.prog 65 #[.slice sa n2 sc, v, .func (.func 66) #[] #[]] W (Ret (.bool o3) W)) :
    Calls Tryz.prog 23 #[.agg #[.int .i64 s0, .int .i64 s1, .int .i64 s2, .slice ra n1 rc, .slice sa n2 sc, .slice wa n3 wc]] w (Ret (.int .i64 (checkI nb mb a1 a2 em o1 o2 o3)) w) := by
  cases nb
  · show Calls _ _ _ _ (Ret (.int .i64 43) w)
    clear Ho1 Ho2 HNm HEq
    go_enter Tryz.func23, Tryz.ntmps23
    go_wp2_with (first | (go_at_call 59; (with_reducible refine (Hn _).mono ?_); rintro e w1 ⟨rfl, hb1⟩; obtain ⟨hc1, hf1⟩ := bcell hb1; (try simp only [World.heap_drewN, World.cell?_drewN, World.frozen?_drewN] at hc1 hf1); have hz1 := hb1.size; (try simp at hz1); (try have hy1_0 : w.heap.size < w1.heap.size := by omega); (try have hy1_1 : w.heap.size + 1 < w1.heap.size := by omega); (try have hy1_2 : w.heap.size + 2 < w1.heap.size := by omega); (try have hy1_3 : w.heap.size + 3 < w1.heap.size := by omega); (try have hx1_0 : w.heap.size ≤ w1.heap.size := by omega); (try have hx1_1 : w.heap.size + 1 ≤ w1.heap.size := by omega); (try have hx1_2 : w.heap.size + 2 ≤ w1.heap.size := by omega)) | (go_at_call 60; (with_reducible refine (Hm _).mono ?_); rintro e w2 ⟨rfl, hb2⟩; obtain ⟨hc2, hf2⟩ := bcell hb2; (try simp only [World.heap_drewN, World.cell?_drewN, World.frozen?_drewN] at hc2 hf2); have hz2 := hb2.size; (try simp at hz2); (try have hy2_0 : w.heap.size < w2.heap.size := by omega); (try have hy2_1 : w.heap.size + 1 < w2.heap.size := by omega); (try have hy2_2 : w.heap.size + 2 < w2.heap.size := by omega); (try have hy2_3 : w.heap.size + 3 < w2.heap.size := by omega); (try have hx2_0 : w.heap.size ≤ w2.heap.size := by omega); (try have hx2_1 : w.heap.size + 1 ≤ w2.heap.size := by omega); (try have hx2_2 : w.heap.size + 2 ≤ w2.heap.size := by omega)) | (go_at_call 61; (with_reducible refine (Ha1 _ (by (repeat (first | with_reducible exact Below.refl _ _ | ((with_reducible refine Below.alloc1 ?_ ?_ _); (· first | omega | (simp; done) | (simp; omega))) | (with_reducible refine Below.drew ?_) | (with_reducible refine below_drewN' ?_ _) | ((with_reducible refine Below.setCell1 ?_ ?_ _); (· first | omega | (simp; done) | (simp; omega))) | ((with_reducible refine Below.after (by assumption) ?_ ?_); (· first | omega | (simp; done) | (simp; omega))))))).mono ?_); rintro e w3 ⟨rfl, hb3⟩; obtain ⟨hc3, hf3⟩ := bcell hb3; (try simp only [World.heap_drewN, World.cell?_drewN, World.frozen?_drewN] at hc3 hf3); have hz3 := hb3.size; (try simp at hz3); (try have hy3_0 : w.heap.size < w3.heap.size := by omega); (try have hy3_1 : w.heap.size + 1 < w3.heap.size := by omega); (try have hy3_2 : w.heap.size + 2 < w3.heap.size := by omega); (try have hy3_3 : w.heap.size + 3 < w3.heap.size := by omega); (try have hx3_0 : w.heap.size ≤ w3.heap.size := by omega); (try have hx3_1 : w.heap.size + 1 ≤ w3.heap.size := by omega); (try have hx3_2 : w.heap.size + 2 ≤ w3.heap.size := by omega)) | (go_at_call 61; (with_reducible refine (Ha2 _ (by (repeat (first | with_reducible exact Below.refl _ _ | ((with_reducible refine Below.alloc1 ?_ ?_ _); (· first | omega | (simp; done) | (simp; omega))) | (with_reducible refine Below.drew ?_) | (with_reducible refine below_drewN' ?_ _) | ((with_reducible refine Below.setCell1 ?_ ?_ _); (· first | omega | (simp; done) | (simp; omega))) | ((with_reducible refine Below.after (by assumption) ?_ ?_); (· first | omega | (simp; done) | (simp; omega))))))).mono ?_); rintro e w3 ⟨rfl, hb3⟩; obtain ⟨hc3, hf3⟩ := bcell hb3; (try simp only [World.heap_drewN, World.cell?_drewN, World.frozen?_drewN] at hc3 hf3); have hz3 := hb3.size; (try simp at hz3); (try have hy3_0 : w.heap.size < w3.heap.size := by omega); (try have hy3_1 : w.heap.size + 1 < w3.heap.size := by omega); (try have hy3_2 : w.heap.size + 2 < w3.heap.size := by omega); (try have hy3_3 : w.heap.size + 3 < w3.heap.size := by omega); (try have hx3_0 : w.heap.size ≤ w3.heap.size := by omega); (try have hx3_1 : w.heap.size + 1 ≤ w3.heap.size := by omega); (try have hx3_2 : w.heap.size + 2 ≤ w3.heap.size := by omega)) | (go_at_call 31; (with_reducible refine (He _ (by (repeat (first | with_reducible exact Below.refl _ _ | ((with_reducible refine Below.alloc1 ?_ ?_ _); (· first | omega | (simp; done) | (simp; omega))) | (with_reducible refine Below.drew ?_) | (with_reducible refine below_drewN' ?_ _) | ((with_reducible refine Below.setCell1 ?_ ?_ _); (· first | omega | (simp; done) | (simp; omega))) | ((with_reducible refine Below.after (by assumption) ?_ ?_); (· first | omega | (simp; done) | (simp; omega))))))).mono ?_); rintro e w4 ⟨rfl, hb4⟩; obtain ⟨hc4, hf4⟩ := bcell hb4; (try simp only [World.heap_drewN, World.cell?_drewN, World.frozen?_drewN] at hc4 hf4); have hz4 := hb4.size; (try simp at hz4); (try have hy4_0 : w.heap.size < w4.heap.size := by omega); (try have hy4_1 : w.heap.size + 1 < w4.heap.size := by omega); (try have hy4_2 : w.heap.size + 2 < w4.heap.size := by omega); (try have hy4_3 : w.heap.size + 3 < w4.heap.size := by omega); (try have hx4_0 : w.heap.size ≤ w4.heap.size := by omega); (try have hx4_1 : w.heap.size + 1 ≤ w4.heap.size := by omega); (try have hx4_2 : w.heap.size + 2 ≤ w4.heap.size := by omega)))
    go_ret
    exact ⟨rfl, by (repeat (first | with_reducible exact Below.refl _ _ | ((with_reducible refine Below.alloc1 ?_ ?_ _); (· first | omega | (simp; done) | (simp; omega))) | (with_reducible refine Below.drew ?_) | (with_reducible refine below_drewN' ?_ _) | ((with_reducible refine Below.setCell1 ?_ ?_ _); (· first | omega | (simp; done) | (simp; omega))) | ((with_reducible refine Below.after (by assumption) ?_ ?_); (· first | omega | (simp; done) | (simp; omega)))))⟩
  cases mb
  rotate_left
  · show Calls _ _ _ _ (Ret (.int .i64 3) w)
    clear Ho1 Ho2 HNm HEq
    go_enter Tryz.func23, Tryz.ntmps23
    go_wp2_with (first | (go_at_call 59; (with_reducible refine (Hn _).mono ?_); rintro e w1 ⟨rfl, hb1⟩; obtain ⟨hc1, hf1⟩ := bcell hb1; (try simp only [World.heap_drewN, World.cell?_drewN, World.frozen?_drewN] at hc1 hf1); have hz1 := hb1.size; (try simp at hz1); (try have hy1_0 : w.heap.size < w1.heap.size := by omega); (try have hy1_1 : w.heap.size + 1 < w1.heap.size := by omega); (try have hy1_2 : w.heap.size + 2 < w1.heap.size := by omega); (try have hy1_3 : w.heap.size + 3 < w1.heap.size := by omega); (try have hx1_0 : w.heap.size ≤ w1.heap.size := by omega); (try have hx1_1 : w.heap.size + 1 ≤ w1.heap.size := by omega); (try have hx1_2 : w.heap.size + 2 ≤ w1.heap.size := by omega)) | (go_at_call 60; (with_reducible refine (Hm _).mono ?_); rintro e w2 ⟨rfl, hb2⟩; obtain ⟨hc2, hf2⟩ := bcell hb2; (try simp only [World.heap_drewN, World.cell?_drewN, World.frozen?_drewN] at hc2 hf2); have hz2 := hb2.size; (try simp at hz2); (try have hy2_0 : w.heap.size < w2.heap.size := by omega); (try have hy2_1 : w.heap.size + 1 < w2.heap.size := by omega); (try have hy2_2 : w.heap.size + 2 < w2.heap.size := by omega); (try have hy2_3 : w.heap.size + 3 < w2.heap.size := by omega); (try have hx2_0 : w.heap.size ≤ w2.heap.size := by omega); (try have hx2_1 : w.heap.size + 1 ≤ w2.heap.size := by omega); (try have hx2_2 : w.heap.size + 2 ≤ w2.heap.size := by omega)) | (go_at_call 61; (with_reducible refine (Ha1 _ (by (repeat (first | with_reducible exact Below.refl _ _ | ((with_reducible refine Below.alloc1 ?_ ?_ _); (· first | omega | (simp; done) | (simp; omega))) | (with_reducible refine Below.drew ?_) | (with_reducible refine below_drewN' ?_ _) | ((with_reducible refine Below.setCell1 ?_ ?_ _); (· first | omega | (simp; done) | (simp; omega))) | ((with_reducible refine Below.after (by assumption) ?_ ?_); (· first | omega | (simp; done) | (simp; omega))))))).mono ?_); rintro e w3 ⟨rfl, hb3⟩; obtain ⟨hc3, hf3⟩ := bcell hb3; (try simp only [World.heap_drewN, World.cell?_drewN, World.frozen?_drewN] at hc3 hf3); have hz3 := hb3.size; (try simp at hz3); (try have hy3_0 : w.heap.size < w3.heap.size := by omega); (try have hy3_1 : w.heap.size + 1 < w3.heap.size := by omega); (try have hy3_2 : w.heap.size + 2 < w3.heap.size := by omega); (try have hy3_3 : w.heap.size + 3 < w3.heap.size := by omega); (try have hx3_0 : w.heap.size ≤ w3.heap.size := by omega); (try have hx3_1 : w.heap.size + 1 ≤ w3.heap.size := by omega); (try have hx3_2 : w.heap.size + 2 ≤ w3.heap.size := by omega)) | (go_at_call 61; (with_reducible refine (Ha2 _ (by (repeat (first | with_reducible exact Below.refl _ _ | ((with_reducible refine Below.alloc1 ?_ ?_ _); (· first | omega | (simp; done) | (simp; omega))) | (with_reducible refine Below.drew ?_) | (with_reducible refine below_drewN' ?_ _) | ((with_reducible refine Below.setCell1 ?_ ?_ _); (· first | omega | (simp; done) | (simp; omega))) | ((with_reducible refine Below.after (by assumption) ?_ ?_); (· first | omega | (simp; done) | (simp; omega))))))).mono ?_); rintro e w3 ⟨rfl, hb3⟩; obtain ⟨hc3, hf3⟩ := bcell hb3; (try simp only [World.heap_drewN, World.cell?_drewN, World.frozen?_drewN] at hc3 hf3); have hz3 := hb3.size; (try simp at hz3); (try have hy3_0 : w.heap.size < w3.heap.size := by omega); (try have hy3_1 : w.heap.size + 1 < w3.heap.size := by omega); (try have hy3_2 : w.heap.size + 2 < w3.heap.size := by omega); (try have hy3_3 : w.heap.size + 3 < w3.heap.size := by omega); (try have hx3_0 : w.heap.size ≤ w3.heap.size := by omega); (try have hx3_1 : w.heap.size + 1 ≤ w3.heap.size := by omega); (try have hx3_2 : w.heap.size + 2 ≤ w3.heap.size := by omega)) | (go_at_call 31; (with_reducible refine (He _ (by (repeat (first | with_reducible exact Below.refl _ _ | ((with_reducible refine Below.alloc1 ?_ ?_ _); (· first | omega | (simp; done) | (simp; omega))) | (with_reducible refine Below.drew ?_) | (with_reducible refine below_drewN' ?_ _) | ((with_reducible refine Below.setCell1 ?_ ?_ _); (· first | omega | (simp; done) | (simp; omega))) | ((with_reducible refine Below.after (by assumption) ?_ ?_); (· first | omega | (simp; done) | (simp; omega))))))).mono ?_); rintro e w4 ⟨rfl, hb4⟩; obtain ⟨hc4, hf4⟩ := bcell hb4; (try simp only [World.heap_drewN, World.cell?_drewN, World.frozen?_drewN] at hc4 hf4); have hz4 := hb4.size; (try simp at hz4); (try have hy4_0 : w.heap.size < w4.heap.size := by omega); (try have hy4_1 : w.heap.size + 1 < w4.heap.size := by omega); (try have hy4_2 : w.heap.size + 2 < w4.heap.size := by omega); (try have hy4_3 : w.heap.size + 3 < w4.heap.size := by omega); (try have hx4_0 : w.heap.size ≤ w4.heap.size := by omega); (try have hx4_1 : w.heap.size + 1 ≤ w4.heap.size := by omega); (try have hx4_2 : w.heap.size + 2 ≤ w4.heap.size := by omega)))
    go_ret
    exact ⟨rfl, by (repeat (first | with_reducible exact Below.refl _ _ | ((with_reducible refine Below.alloc1 ?_ ?_ _); (· first | omega | (simp; done) | (simp; omega))) | (with_reducible refine Below.drew ?_) | (with_reducible refine below_drewN' ?_ _) | ((with_reducible refine Below.setCell1 ?_ ?_ _); (· first | omega | (simp; done) | (simp; omega))) | ((with_reducible refine Below.after (by assumption) ?_ ?_); (· first | omega | (simp; done) | (simp; omega)))))⟩
  cases a1
  rotate_left
  · show Calls _ _ _ _ (Ret (.int .i64 40) w)
    clear Ho1 Ho2 HNm HEq
    go_enter Tryz.func23, Tryz.ntmps23
    go_wp2_with (first | (go_at_call 59; (with_reducible refine (Hn _).mono ?_); rintro e w1 ⟨rfl, hb1⟩; obtain ⟨hc1, hf1⟩ := bcell hb1; (try simp only [World.heap_drewN, World.cell?_drewN, World.frozen?_drewN] at hc1 hf1); have hz1 := hb1.size; (try simp at hz1); (try have hy1_0 : w.heap.size < w1.heap.size := by omega); (try have hy1_1 : w.heap.size + 1 < w1.heap.size := by omega); (try have hy1_2 : w.heap.size + 2 < w1.heap.size := by omega); (try have hy1_3 : w.heap.size + 3 < w1.heap.size := by omega); (try have hx1_0 : w.heap.size ≤ w1.heap.size := by omega); (try have hx1_1 : w.heap.size + 1 ≤ w1.heap.size := by omega); (try have hx1_2 : w.heap.size + 2 ≤ w1.heap.size := by omega)) | (go_at_call 60; (with_reducible refine (Hm _).mono ?_); rintro e w2 ⟨rfl, hb2⟩; obtain ⟨hc2, hf2⟩ := bcell hb2; (try simp only [World.heap_drewN, World.cell?_drewN, World.frozen?_drewN] at hc2 hf2); have hz2 := hb2.size; (try simp at hz2); (try have hy2_0 : w.heap.size < w2.heap.size := by omega); (try have hy2_1 : w.heap.size + 1 < w2.heap.size := by omega); (try have hy2_2 : w.heap.size + 2 < w2.heap.size := by omega); (try have hy2_3 : w.heap.size + 3 < w2.heap.size := by omega); (try have hx2_0 : w.heap.size ≤ w2.heap.size := by omega); (try have hx2_1 : w.heap.size + 1 ≤ w2.heap.size := by omega); (try have hx2_2 : w.heap.size + 2 ≤ w2.heap.size := by omega)) | (go_at_call 61; (with_reducible refine (Ha1 _ (by (repeat (first | with_reducible exact Below.refl _ _ | ((with_reducible refine Below.alloc1 ?_ ?_ _); (· first | omega | (simp; done) | (simp; omega))) | (with_reducible refine Below.drew ?_) | (with_reducible refine below_drewN' ?_ _) | ((with_reducible refine Below.setCell1 ?_ ?_ _); (· first | omega | (simp; done) | (simp; omega))) | ((with_reducible refine Below.after (by assumption) ?_ ?_); (· first | omega | (simp; done) | (simp; omega))))))).mono ?_); rintro e w3 ⟨rfl, hb3⟩; obtain ⟨hc3, hf3⟩ := bcell hb3; (try simp only [World.heap_drewN, World.cell?_drewN, World.frozen?_drewN] at hc3 hf3); have hz3 := hb3.size; (try simp at hz3); (try have hy3_0 : w.heap.size < w3.heap.size := by omega); (try have hy3_1 : w.heap.size + 1 < w3.heap.size := by omega); (try have hy3_2 : w.heap.size + 2 < w3.heap.size := by omega); (try have hy3_3 : w.heap.size + 3 < w3.heap.size := by omega); (try have hx3_0 : w.heap.size ≤ w3.heap.size := by omega); (try have hx3_1 : w.heap.size + 1 ≤ w3.heap.size := by omega); (try have hx3_2 : w.heap.size + 2 ≤ w3.heap.size := by omega)) | (go_at_call 61; (with_reducible refine (Ha2 _ (by (repeat (first | with_reducible exact Below.refl _ _ | ((with_reducible refine Below.alloc1 ?_ ?_ _); (· first | omega | (simp; done) | (simp; omega))) | (with_reducible refine Below.drew ?_) | (with_reducible refine below_drewN' ?_ _) | ((with_reducible refine Below.setCell1 ?_ ?_ _); (· first | omega | (simp; done) | (simp; omega))) | ((with_reducible refine Below.after (by assumption) ?_ ?_); (· first | omega | (simp; done) | (simp; omega))))))).mono ?_); rintro e w3 ⟨rfl, hb3⟩; obtain ⟨hc3, hf3⟩ := bcell hb3; (try simp only [World.heap_drewN, World.cell?_drewN, World.frozen?_drewN] at hc3 hf3); have hz3 := hb3.size; (try simp at hz3); (try have hy3_0 : w.heap.size < w3.heap.size := by omega); (try have hy3_1 : w.heap.size + 1 < w3.heap.size := by omega); (try have hy3_2 : w.heap.size + 2 < w3.heap.size := by omega); (try have hy3_3 : w.heap.size + 3 < w3.heap.size := by omega); (try have hx3_0 : w.heap.size ≤ w3.heap.size := by omega); (try have hx3_1 : w.heap.size + 1 ≤ w3.heap.size := by omega); (try have hx3_2 : w.heap.size + 2 ≤ w3.heap.size := by omega)) | (go_at_call 31; (with_reducible refine (He _ (by (repeat (first | with_reducible exact Below.refl _ _ | ((with_reducible refine Below.alloc1 ?_ ?_ _); (· first | omega | (simp; done) | (simp; omega))) | (with_reducible refine Below.drew ?_) | (with_reducible refine below_drewN' ?_ _) | ((with_reducible refine Below.setCell1 ?_ ?_ _); (· first | omega | (simp; done) | (simp; omega))) | ((with_reducible refine Below.after (by assumption) ?_ ?_); (· first | omega | (simp; done) | (simp; omega))))))).mono ?_); rintro e w4 ⟨rfl, hb4⟩; obtain ⟨hc4, hf4⟩ := bcell hb4; (try simp only [World.heap_drewN, World.cell?_drewN, World.frozen?_drewN] at hc4 hf4); have hz4 := hb4.size; (try simp at hz4); (try have hy4_0 : w.heap.size < w4.heap.size := by omega); (try have hy4_1 : w.heap.size + 1 < w4.heap.size := by omega); (try have hy4_2 : w.heap.size + 2 < w4.heap.size := by omega); (try have hy4_3 : w.heap.size + 3 < w4.heap.size := by omega); (try have hx4_0 : w.heap.size ≤ w4.heap.size := by omega); (try have hx4_1 : w.heap.size + 1 ≤ w4.heap.size := by omega); (try have hx4_2 : w.heap.size + 2 ≤ w4.heap.size := by omega)))
    go_ret
    exact ⟨rfl, by (repeat (first | with_reducible exact Below.refl _ _ | ((with_reducible refine Below.alloc1 ?_ ?_ _); (· first | omega | (simp; done) | (simp; omega))) | (with_reducible refine Below.drew ?_) | (with_reducible refine below_drewN' ?_ _) | ((with_reducible refine Below.setCell1 ?_ ?_ _); (· first | omega | (simp; done) | (simp; omega))) | ((with_reducible refine Below.after (by assumption) ?_ ?_); (· first | omega | (simp; done) | (simp; omega)))))⟩
  cases a2
  rotate_left
  · show Calls _ _ _ _ (Ret (.int .i64 40) w)
    clear Ho1 Ho2 HNm HEq
    go_enter Tryz.func23, Tryz.ntmps23
    go_wp2_with (first | (go_at_call 59; (with_reducible refine (Hn _).mono ?_); rintro e w1 ⟨rfl, hb1⟩; obtain ⟨hc1, hf1⟩ := bcell hb1; (try simp only [World.heap_drewN, World.cell?_drewN, World.frozen?_drewN] at hc1 hf1); have hz1 := hb1.size; (try simp at hz1); (try have hy1_0 : w.heap.size < w1.heap.size := by omega); (try have hy1_1 : w.heap.size + 1 < w1.heap.size := by omega); (try have hy1_2 : w.heap.size + 2 < w1.heap.size := by omega); (try have hy1_3 : w.heap.size + 3 < w1.heap.size := by omega); (try have hx1_0 : w.heap.size ≤ w1.heap.size := by omega); (try have hx1_1 : w.heap.size + 1 ≤ w1.heap.size := by omega); (try have hx1_2 : w.heap.size + 2 ≤ w1.heap.size := by omega)) | (go_at_call 60; (with_reducible refine (Hm _).mono ?_); rintro e w2 ⟨rfl, hb2⟩; obtain ⟨hc2, hf2⟩ := bcell hb2; (try simp only [World.heap_drewN, World.cell?_drewN, World.frozen?_drewN] at hc2 hf2); have hz2 := hb2.size; (try simp at hz2); (try have hy2_0 : w.heap.size < w2.heap.size := by omega); (try have hy2_1 : w.heap.size + 1 < w2.heap.size := by omega); (try have hy2_2 : w.heap.size + 2 < w2.heap.size := by omega); (try have hy2_3 : w.heap.size + 3 < w2.heap.size := by omega); (try have hx2_0 : w.heap.size ≤ w2.heap.size := by omega); (try have hx2_1 : w.heap.size + 1 ≤ w2.heap.size := by omega); (try have hx2_2 : w.heap.size + 2 ≤ w2.heap.size := by omega)) | (go_at_call 61; (with_reducible refine (Ha1 _ (by (repeat (first | with_reducible exact Below.refl _ _ | ((with_reducible refine Below.alloc1 ?_ ?_ _); (· first | omega | (simp; done) | (simp; omega))) | (with_reducible refine Below.drew ?_) | (with_reducible refine below_drewN' ?_ _) | ((with_reducible refine Below.setCell1 ?_ ?_ _); (· first | omega | (simp; done) | (simp; omega))) | ((with_reducible refine Below.after (by assumption) ?_ ?_); (· first | omega | (simp; done) | (simp; omega))))))).mono ?_); rintro e w3 ⟨rfl, hb3⟩; obtain ⟨hc3, hf3⟩ := bcell hb3; (try simp only [World.heap_drewN, World.cell?_drewN, World.frozen?_drewN] at hc3 hf3); have hz3 := hb3.size; (try simp at hz3); (try have hy3_0 : w.heap.size < w3.heap.size := by omega); (try have hy3_1 : w.heap.size + 1 < w3.heap.size := by omega); (try have hy3_2 : w.heap.size + 2 < w3.heap.size := by omega); (try have hy3_3 : w.heap.size + 3 < w3.heap.size := by omega); (try have hx3_0 : w.heap.size ≤ w3.heap.size := by omega); (try have hx3_1 : w.heap.size + 1 ≤ w3.heap.size := by omega); (try have hx3_2 : w.heap.size + 2 ≤ w3.heap.size := by omega)) | (go_at_call 61; (with_reducible refine (Ha2 _ (by (repeat (first | with_reducible exact Below.refl _ _ | ((with_reducible refine Below.alloc1 ?_ ?_ _); (· first | omega | (simp; done) | (simp; omega))) | (with_reducible refine Below.drew ?_) | (with_reducible refine below_drewN' ?_ _) | ((with_reducible refine Below.setCell1 ?_ ?_ _); (· first | omega | (simp; done) | (simp; omega))) | ((with_reducible refine Below.after (by assumption) ?_ ?_); (· first | omega | (simp; done) | (simp; omega))))))).mono ?_); rintro e w3 ⟨rfl, hb3⟩; obtain ⟨hc3, hf3⟩ := bcell hb3; (try simp only [World.heap_drewN, World.cell?_drewN, World.frozen?_drewN] at hc3 hf3); have hz3 := hb3.size; (try simp at hz3); (try have hy3_0 : w.heap.size < w3.heap.size := by omega); (try have hy3_1 : w.heap.size + 1 < w3.heap.size := by omega); (try have hy3_2 : w.heap.size + 2 < w3.heap.size := by omega); (try have hy3_3 : w.heap.size + 3 < w3.heap.size := by omega); (try have hx3_0 : w.heap.size ≤ w3.heap.size := by omega); (try have hx3_1 : w.heap.size + 1 ≤ w3.heap.size := by omega); (try have hx3_2 : w.heap.size + 2 ≤ w3.heap.size := by omega)) | (go_at_call 31; (with_reducible refine (He _ (by (repeat (first | with_reducible exact Below.refl _ _ | ((with_reducible refine Below.alloc1 ?_ ?_ _); (· first | omega | (simp; done) | (simp; omega))) | (with_reducible refine Below.drew ?_) | (with_reducible refine below_drewN' ?_ _) | ((with_reducible refine Below.setCell1 ?_ ?_ _); (· first | omega | (simp; done) | (simp; omega))) | ((with_reducible refine Below.after (by assumption) ?_ ?_); (· first | omega | (simp; done) | (simp; omega))))))).mono ?_); rintro e w4 ⟨rfl, hb4⟩; obtain ⟨hc4, hf4⟩ := bcell hb4; (try simp only [World.heap_drewN, World.cell?_drewN, World.frozen?_drewN] at hc4 hf4); have hz4 := hb4.size; (try simp at hz4); (try have hy4_0 : w.heap.size < w4.heap.size := by omega); (try have hy4_1 : w.heap.size + 1 < w4.heap.size := by omega); (try have hy4_2 : w.heap.size + 2 < w4.heap.size := by omega); (try have hy4_3 : w.heap.size + 3 < w4.heap.size := by omega); (try have hx4_0 : w.heap.size ≤ w4.heap.size := by omega); (try have hx4_1 : w.heap.size + 1 ≤ w4.heap.size := by omega); (try have hx4_2 : w.heap.size + 2 ≤ w4.heap.size := by omega)))
    go_ret
    exact ⟨rfl, by (repeat (first | with_reducible exact Below.refl _ _ | ((with_reducible refine Below.alloc1 ?_ ?_ _); (· first | omega | (simp; done) | (simp; omega))) | (with_reducible refine Below.drew ?_) | (with_reducible refine below_drewN' ?_ _) | ((with_reducible refine Below.setCell1 ?_ ?_ _); (· first | omega | (simp; done) | (simp; omega))) | ((with_reducible refine Below.after (by assumption) ?_ ?_); (· first | omega | (simp; done) | (simp; omega)))))⟩
  cases em
  rotate_left
  · show Calls _ _ _ _ (Ret (.int .i64 41) w)
    clear Ho1 Ho2 HNm HEq
    go_enter Tryz.func23, Tryz.ntmps23
    go_wp2_with (first | (go_at_call 59; (with_reducible refine (Hn _).mono ?_); rintro e w1 ⟨rfl, hb1⟩; obtain ⟨hc1, hf1⟩ := bcell hb1; (try simp only [World.heap_drewN, World.cell?_drewN, World.frozen?_drewN] at hc1 hf1); have hz1 := hb1.size; (try simp at hz1); (try have hy1_0 : w.heap.size < w1.heap.size := by omega); (try have hy1_1 : w.heap.size + 1 < w1.heap.size := by omega); (try have hy1_2 : w.heap.size + 2 < w1.heap.size := by omega); (try have hy1_3 : w.heap.size + 3 < w1.heap.size := by omega); (try have hx1_0 : w.heap.size ≤ w1.heap.size := by omega); (try have hx1_1 : w.heap.size + 1 ≤ w1.heap.size := by omega); (try have hx1_2 : w.heap.size + 2 ≤ w1.heap.size := by omega)) | (go_at_call 60; (with_reducible refine (Hm _).mono ?_); rintro e w2 ⟨rfl, hb2⟩; obtain ⟨hc2, hf2⟩ := bcell hb2; (try simp only [World.heap_drewN, World.cell?_drewN, World.frozen?_drewN] at hc2 hf2); have hz2 := hb2.size; (try simp at hz2); (try have hy2_0 : w.heap.size < w2.heap.size := by omega); (try have hy2_1 : w.heap.size + 1 < w2.heap.size := by omega); (try have hy2_2 : w.heap.size + 2 < w2.heap.size := by omega); (try have hy2_3 : w.heap.size + 3 < w2.heap.size := by omega); (try have hx2_0 : w.heap.size ≤ w2.heap.size := by omega); (try have hx2_1 : w.heap.size + 1 ≤ w2.heap.size := by omega); (try have hx2_2 : w.heap.size + 2 ≤ w2.heap.size := by omega)) | (go_at_call 61; (with_reducible refine (Ha1 _ (by (repeat (first | with_reducible exact Below.refl _ _ | ((with_reducible refine Below.alloc1 ?_ ?_ _); (· first | omega | (simp; done) | (simp; omega))) | (with_reducible refine Below.drew ?_) | (with_reducible refine below_drewN' ?_ _) | ((with_reducible refine Below.setCell1 ?_ ?_ _); (· first | omega | (simp; done) | (simp; omega))) | ((with_reducible refine Below.after (by assumption) ?_ ?_); (· first | omega | (simp; done) | (simp; omega))))))).mono ?_); rintro e w3 ⟨rfl, hb3⟩; obtain ⟨hc3, hf3⟩ := bcell hb3; (try simp only [World.heap_drewN, World.cell?_drewN, World.frozen?_drewN] at hc3 hf3); have hz3 := hb3.size; (try simp at hz3); (try have hy3_0 : w.heap.size < w3.heap.size := by omega); (try have hy3_1 : w.heap.size + 1 < w3.heap.size := by omega); (try have hy3_2 : w.heap.size + 2 < w3.heap.size := by omega); (try have hy3_3 : w.heap.size + 3 < w3.heap.size := by omega); (try have hx3_0 : w.heap.size ≤ w3.heap.size := by omega); (try have hx3_1 : w.heap.size + 1 ≤ w3.heap.size := by omega); (try have hx3_2 : w.heap.size + 2 ≤ w3.heap.size := by omega)) | (go_at_call 61; (with_reducible refine (Ha2 _ (by (repeat (first | with_reducible exact Below.refl _ _ | ((with_reducible refine Below.alloc1 ?_ ?_ _); (· first | omega | (simp; done) | (simp; omega))) | (with_reducible refine Below.drew ?_) | (with_reducible refine below_drewN' ?_ _) | ((with_reducible refine Below.setCell1 ?_ ?_ _); (· first | omega | (simp; done) | (simp; omega))) | ((with_reducible refine Below.after (by assumption) ?_ ?_); (· first | omega | (simp; done) | (simp; omega))))))).mono ?_); rintro e w3 ⟨rfl, hb3⟩; obtain ⟨hc3, hf3⟩ := bcell hb3; (try simp only [World.heap_drewN, World.cell?_drewN, World.frozen?_drewN] at hc3 hf3); have hz3 := hb3.size; (try simp at hz3); (try have hy3_0 : w.heap.size < w3.heap.size := by omega); (try have hy3_1 : w.heap.size + 1 < w3.heap.size := by omega); (try have hy3_2 : w.heap.size + 2 < w3.heap.size := by omega); (try have hy3_3 : w.heap.size + 3 < w3.heap.size := by omega); (try have hx3_0 : w.heap.size ≤ w3.heap.size := by omega); (try have hx3_1 : w.heap.size + 1 ≤ w3.heap.size := by omega); (try have hx3_2 : w.heap.size + 2 ≤ w3.heap.size := by omega)) | (go_at_call 31; (with_reducible refine (He _ (by (repeat (first | with_reducible exact Below.refl _ _ | ((with_reducible refine Below.alloc1 ?_ ?_ _); (· first | omega | (simp; done) | (simp; omega))) | (with_reducible refine Below.drew ?_) | (with_reducible refine below_drewN' ?_ _) | ((with_reducible refine Below.setCell1 ?_ ?_ _); (· first | omega | (simp; done) | (simp; omega))) | ((with_reducible refine Below.after (by assumption) ?_ ?_); (· first | omega | (simp; done) | (simp; omega))))))).mono ?_); rintro e w4 ⟨rfl, hb4⟩; obtain ⟨hc4, hf4⟩ := bcell hb4; (try simp only [World.heap_drewN, World.cell?_drewN, World.frozen?_drewN] at hc4 hf4); have hz4 := hb4.size; (try simp at hz4); (try have hy4_0 : w.heap.size < w4.heap.size := by omega); (try have hy4_1 : w.heap.size + 1 < w4.heap.size := by omega); (try have hy4_2 : w.heap.size + 2 < w4.heap.size := by omega); (try have hy4_3 : w.heap.size + 3 < w4.heap.size := by omega); (try have hx4_0 : w.heap.size ≤ w4.heap.size := by omega); (try have hx4_1 : w.heap.size + 1 ≤ w4.heap.size := by omega); (try have hx4_2 : w.heap.size + 2 ≤ w4.heap.size := by omega)))
    go_ret
    exact ⟨rfl, by (repeat (first | with_reducible exact Below.refl _ _ | ((with_reducible refine Below.alloc1 ?_ ?_ _); (· first | omega | (simp; done) | (simp; omega))) | (with_reducible refine Below.drew ?_) | (with_reducible refine below_drewN' ?_ _) | ((with_reducible refine Below.setCell1 ?_ ?_ _); (· first | omega | (simp; done) | (simp; omega))) | ((with_reducible refine Below.after (by assumption) ?_ ?_); (· first | omega | (simp; done) | (simp; omega)))))⟩
  replace Ho1 := Ho1 rfl
  replace Ho2 := Ho2 rfl
  replace HNm := HNm rfl
  cases o1
  · show Calls _ _ _ _ (Ret (.int .i64 42) w)
    clear Ho2 HNm HEq
    go_enter Tryz.func23, Tryz.ntmps23
    go_upto_region 9 with (first | (go_at_call 59; (with_reducible refine (Hn _).mono ?_); rintro e w1 ⟨rfl, hb1⟩; obtain ⟨hc1, hf1⟩ := bcell hb1; (try simp only [World.heap_drewN, World.cell?_drewN, World.frozen?_drewN] at hc1 hf1); have hz1 := hb1.size; (try simp at hz1); (try have hy1_0 : w.heap.size < w1.heap.size := by omega); (try have hy1_1 : w.heap.size + 1 < w1.heap.size := by omega); (try have hy1_2 : w.heap.size + 2 < w1.heap.size := by omega); (try have hy1_3 : w.heap.size + 3 < w1.heap.size := by omega); (try have hx1_0 : w.heap.size ≤ w1.heap.size := by omega); (try have hx1_1 : w.heap.size + 1 ≤ w1.heap.size := by omega); (try have hx1_2 : w.heap.size + 2 ≤ w1.heap.size := by omega)) | (go_at_call 60; (with_reducible refine (Hm _).mono ?_); rintro e w2 ⟨rfl, hb2⟩; obtain ⟨hc2, hf2⟩ := bcell hb2; (try simp only [World.heap_drewN, World.cell?_drewN, World.frozen?_drewN] at hc2 hf2); have hz2 := hb2.size; (try simp at hz2); (try have hy2_0 : w.heap.size < w2.heap.size := by omega); (try have hy2_1 : w.heap.size + 1 < w2.heap.size := by omega); (try have hy2_2 : w.heap.size + 2 < w2.heap.size := by omega); (try have hy2_3 : w.heap.size + 3 < w2.heap.size := by omega); (try have hx2_0 : w.heap.size ≤ w2.heap.size := by omega); (try have hx2_1 : w.heap.size + 1 ≤ w2.heap.size := by omega); (try have hx2_2 : w.heap.size + 2 ≤ w2.heap.size := by omega)) | (go_at_call 61; (with_reducible refine (Ha1 _ (by (repeat (first | with_reducible exact Below.refl _ _ | ((with_reducible refine Below.alloc1 ?_ ?_ _); (· first | omega | (simp; done) | (simp; omega))) | (with_reducible refine Below.drew ?_) | (with_reducible refine below_drewN' ?_ _) | ((with_reducible refine Below.setCell1 ?_ ?_ _); (· first | omega | (simp; done) | (simp; omega))) | ((with_reducible refine Below.after (by assumption) ?_ ?_); (· first | omega | (simp; done) | (simp; omega))))))).mono ?_); rintro e w3 ⟨rfl, hb3⟩; obtain ⟨hc3, hf3⟩ := bcell hb3; (try simp only [World.heap_drewN, World.cell?_drewN, World.frozen?_drewN] at hc3 hf3); have hz3 := hb3.size; (try simp at hz3); (try have hy3_0 : w.heap.size < w3.heap.size := by omega); (try have hy3_1 : w.heap.size + 1 < w3.heap.size := by omega); (try have hy3_2 : w.heap.size + 2 < w3.heap.size := by omega); (try have hy3_3 : w.heap.size + 3 < w3.heap.size := by omega); (try have hx3_0 : w.heap.size ≤ w3.heap.size := by omega); (try have hx3_1 : w.heap.size + 1 ≤ w3.heap.size := by omega); (try have hx3_2 : w.heap.size + 2 ≤ w3.heap.size := by omega)) | (go_at_call 61; (with_reducible refine (Ha2 _ (by (repeat (first | with_reducible exact Below.refl _ _ | ((with_reducible refine Below.alloc1 ?_ ?_ _); (· first | omega | (simp; done) | (simp; omega))) | (with_reducible refine Below.drew ?_) | (with_reducible refine below_drewN' ?_ _) | ((with_reducible refine Below.setCell1 ?_ ?_ _); (· first | omega | (simp; done) | (simp; omega))) | ((with_reducible refine Below.after (by assumption) ?_ ?_); (· first | omega | (simp; done) | (simp; omega))))))).mono ?_); rintro e w3 ⟨rfl, hb3⟩; obtain ⟨hc3, hf3⟩ := bcell hb3; (try simp only [World.heap_drewN, World.cell?_drewN, World.frozen?_drewN] at hc3 hf3); have hz3 := hb3.size; (try simp at hz3); (try have hy3_0 : w.heap.size < w3.heap.size := by omega); (try have hy3_1 : w.heap.size + 1 < w3.heap.size := by omega); (try have hy3_2 : w.heap.size + 2 < w3.heap.size := by omega); (try have hy3_3 : w.heap.size + 3 < w3.heap.size := by omega); (try have hx3_0 : w.heap.size ≤ w3.heap.size := by omega); (try have hx3_1 : w.heap.size + 1 ≤ w3.heap.size := by omega); (try have hx3_2 : w.heap.size + 2 ≤ w3.heap.size := by omega)) | (go_at_call 31; (with_reducible refine (He _ (by (repeat (first | with_reducible exact Below.refl _ _ | ((with_reducible refine Below.alloc1 ?_ ?_ _); (· first | omega | (simp; done) | (simp; omega))) | (with_reducible refine Below.drew ?_) | (with_reducible refine below_drewN' ?_ _) | ((with_reducible refine Below.setCell1 ?_ ?_ _); (· first | omega | (simp; done) | (simp; omega))) | ((with_reducible refine Below.after (by assumption) ?_ ?_); (· first | omega | (simp; done) | (simp; omega))))))).mono ?_); rintro e w4 ⟨rfl, hb4⟩; obtain ⟨hc4, hf4⟩ := bcell hb4; (try simp only [World.heap_drewN, World.cell?_drewN, World.frozen?_drewN] at hc4 hf4); have hz4 := hb4.size; (try simp at hz4); (try have hy4_0 : w.heap.size < w4.heap.size := by omega); (try have hy4_1 : w.heap.size + 1 < w4.heap.size := by omega); (try have hy4_2 : w.heap.size + 2 < w4.heap.size := by omega); (try have hy4_3 : w.heap.size + 3 < w4.heap.size := by omega); (try have hx4_0 : w.heap.size ≤ w4.heap.size := by omega); (try have hx4_1 : w.heap.size + 1 ≤ w4.heap.size := by omega); (try have hx4_2 : w.heap.size + 2 ≤ w4.heap.size := by omega)))
    have hbw : Below w.heap.size w w4 := by (repeat (first | with_reducible exact Below.refl _ _ | ((with_reducible refine Below.alloc1 ?_ ?_ _); (· first | omega | (simp; done) | (simp; omega))) | (with_reducible refine Below.drew ?_) | (with_reducible refine below_drewN' ?_ _) | ((with_reducible refine Below.setCell1 ?_ ?_ _); (· first | omega | (simp; done) | (simp; omega))) | ((with_reducible refine Below.after (by assumption) ?_ ?_); (· first | omega | (simp; done) | (simp; omega)))))
    have hz := hbw.size
    have hK : ∀ X : Ext w4, Below w.heap.size w X.w := fun X => hbw.trans (X.b.mono hz)
    (refine wp_region_ext (by kernel_rfl) (by kernel_rfl) ?_; (repeat (go_big_quiet_step (first | (go_at_call 64; with_reducible exact Calls.ext_of (Ho1 _ (hK _)))))); refine wpQuiet_nil ?_; rintro w5 ⟨x5, hx5⟩; have hb5 := x5.b; rw [← hx5] at hb5; clear hx5 x5; obtain ⟨hc5, hf5⟩ := bcell hb5; (try simp only [World.heap_drewN, World.cell?_drewN, World.frozen?_drewN] at hc5 hf5); have hz5 := hb5.size; (try simp at hz5); (try have hy5_0 : w.heap.size < w5.heap.size := by omega); (try have hy5_1 : w.heap.size + 1 < w5.heap.size := by omega); (try have hy5_2 : w.heap.size + 2 < w5.heap.size := by omega); (try have hy5_3 : w.heap.size + 3 < w5.heap.size := by omega); (try have hx5_0 : w.heap.size ≤ w5.heap.size := by omega); (try have hx5_1 : w.heap.size + 1 ≤ w5.heap.size := by omega); (try have hx5_2 : w.heap.size + 2 ≤ w5.heap.size := by omega); (try have hu5_w4_0 : w4.heap.size < w5.heap.size := by omega); (try have hu5_w4_1 : w4.heap.size + 1 < w5.heap.size := by omega))
    go_wp2_with fail
    go_ret
    exact ⟨rfl, by (repeat (first | with_reducible exact Below.refl _ _ | ((with_reducible refine Below.alloc1 ?_ ?_ _); (· first | omega | (simp; done) | (simp; omega))) | (with_reducible refine Below.drew ?_) | (with_reducible refine below_drewN' ?_ _) | ((with_reducible refine Below.setCell1 ?_ ?_ _); (· first | omega | (simp; done) | (simp; omega))) | ((with_reducible refine Below.after (by assumption) ?_ ?_); (· first | omega | (simp; done) | (simp; omega)))))⟩
  cases o2
  · show Calls _ _ _ _ (Ret (.int .i64 42) w)
    clear HNm HEq
    go_enter Tryz.func23, Tryz.ntmps23
    go_upto_region 9 with (first | (go_at_call 59; (with_reducible refine (Hn _).mono ?_); rintro e w1 ⟨rfl, hb1⟩; obtain ⟨hc1, hf1⟩ := bcell hb1; (try simp only [World.heap_drewN, World.cell?_drewN, World.frozen?_drewN] at hc1 hf1); have hz1 := hb1.size; (try simp at hz1); (try have hy1_0 : w.heap.size < w1.heap.size := by omega); (try have hy1_1 : w.heap.size + 1 < w1.heap.size := by omega); (try have hy1_2 : w.heap.size + 2 < w1.heap.size := by omega); (try have hy1_3 : w.heap.size + 3 < w1.heap.size := by omega); (try have hx1_0 : w.heap.size ≤ w1.heap.size := by omega); (try have hx1_1 : w.heap.size + 1 ≤ w1.heap.size := by omega); (try have hx1_2 : w.heap.size + 2 ≤ w1.heap.size := by omega)) | (go_at_call 60; (with_reducible refine (Hm _).mono ?_); rintro e w2 ⟨rfl, hb2⟩; obtain ⟨hc2, hf2⟩ := bcell hb2; (try simp only [World.heap_drewN, World.cell?_drewN, World.frozen?_drewN] at hc2 hf2); have hz2 := hb2.size; (try simp at hz2); (try have hy2_0 : w.heap.size < w2.heap.size := by omega); (try have hy2_1 : w.heap.size + 1 < w2.heap.size := by omega); (try have hy2_2 : w.heap.size + 2 < w2.heap.size := by omega); (try have hy2_3 : w.heap.size + 3 < w2.heap.size := by omega); (try have hx2_0 : w.heap.size ≤ w2.heap.size := by omega); (try have hx2_1 : w.heap.size + 1 ≤ w2.heap.size := by omega); (try have hx2_2 : w.heap.size + 2 ≤ w2.heap.size := by omega)) | (go_at_call 61; (with_reducible refine (Ha1 _ (by (repeat (first | with_reducible exact Below.refl _ _ | ((with_reducible refine Below.alloc1 ?_ ?_ _); (· first | omega | (simp; done) | (simp; omega))) | (with_reducible refine Below.drew ?_) | (with_reducible refine below_drewN' ?_ _) | ((with_reducible refine Below.setCell1 ?_ ?_ _); (· first | omega | (simp; done) | (simp; omega))) | ((with_reducible refine Below.after (by assumption) ?_ ?_); (· first | omega | (simp; done) | (simp; omega))))))).mono ?_); rintro e w3 ⟨rfl, hb3⟩; obtain ⟨hc3, hf3⟩ := bcell hb3; (try simp only [World.heap_drewN, World.cell?_drewN, World.frozen?_drewN] at hc3 hf3); have hz3 := hb3.size; (try simp at hz3); (try have hy3_0 : w.heap.size < w3.heap.size := by omega); (try have hy3_1 : w.heap.size + 1 < w3.heap.size := by omega); (try have hy3_2 : w.heap.size + 2 < w3.heap.size := by omega); (try have hy3_3 : w.heap.size + 3 < w3.heap.size := by omega); (try have hx3_0 : w.heap.size ≤ w3.heap.size := by omega); (try have hx3_1 : w.heap.size + 1 ≤ w3.heap.size := by omega); (try have hx3_2 : w.heap.size + 2 ≤ w3.heap.size := by omega)) | (go_at_call 61; (with_reducible refine (Ha2 _ (by (repeat (first | with_reducible exact Below.refl _ _ | ((with_reducible refine Below.alloc1 ?_ ?_ _); (· first | omega | (simp; done) | (simp; omega))) | (with_reducible refine Below.drew ?_) | (with_reducible refine below_drewN' ?_ _) | ((with_reducible refine Below.setCell1 ?_ ?_ _); (· first | omega | (simp; done) | (simp; omega))) | ((with_reducible refine Below.after (by assumption) ?_ ?_); (· first | omega | (simp; done) | (simp; omega))))))).mono ?_); rintro e w3 ⟨rfl, hb3⟩; obtain ⟨hc3, hf3⟩ := bcell hb3; (try simp only [World.heap_drewN, World.cell?_drewN, World.frozen?_drewN] at hc3 hf3); have hz3 := hb3.size; (try simp at hz3); (try have hy3_0 : w.heap.size < w3.heap.size := by omega); (try have hy3_1 : w.heap.size + 1 < w3.heap.size := by omega); (try have hy3_2 : w.heap.size + 2 < w3.heap.size := by omega); (try have hy3_3 : w.heap.size + 3 < w3.heap.size := by omega); (try have hx3_0 : w.heap.size ≤ w3.heap.size := by omega); (try have hx3_1 : w.heap.size + 1 ≤ w3.heap.size := by omega); (try have hx3_2 : w.heap.size + 2 ≤ w3.heap.size := by omega)) | (go_at_call 31; (with_reducible refine (He _ (by (repeat (first | with_reducible exact Below.refl _ _ | ((with_reducible refine Below.alloc1 ?_ ?_ _); (· first | omega | (simp; done) | (simp; omega))) | (with_reducible refine Below.drew ?_) | (with_reducible refine below_drewN' ?_ _) | ((with_reducible refine Below.setCell1 ?_ ?_ _); (· first | omega | (simp; done) | (simp; omega))) | ((with_reducible refine Below.after (by assumption) ?_ ?_); (· first | omega | (simp; done) | (simp; omega))))))).mono ?_); rintro e w4 ⟨rfl, hb4⟩; obtain ⟨hc4, hf4⟩ := bcell hb4; (try simp only [World.heap_drewN, World.cell?_drewN, World.frozen?_drewN] at hc4 hf4); have hz4 := hb4.size; (try simp at hz4); (try have hy4_0 : w.heap.size < w4.heap.size := by omega); (try have hy4_1 : w.heap.size + 1 < w4.heap.size := by omega); (try have hy4_2 : w.heap.size + 2 < w4.heap.size := by omega); (try have hy4_3 : w.heap.size + 3 < w4.heap.size := by omega); (try have hx4_0 : w.heap.size ≤ w4.heap.size := by omega); (try have hx4_1 : w.heap.size + 1 ≤ w4.heap.size := by omega); (try have hx4_2 : w.heap.size + 2 ≤ w4.heap.size := by omega)))
    have hbw : Below w.heap.size w w4 := by (repeat (first | with_reducible exact Below.refl _ _ | ((with_reducible refine Below.alloc1 ?_ ?_ _); (· first | omega | (simp; done) | (simp; omega))) | (with_reducible refine Below.drew ?_) | (with_reducible refine below_drewN' ?_ _) | ((with_reducible refine Below.setCell1 ?_ ?_ _); (· first | omega | (simp; done) | (simp; omega))) | ((with_reducible refine Below.after (by assumption) ?_ ?_); (· first | omega | (simp; done) | (simp; omega)))))
    have hz := hbw.size
    have hK : ∀ X : Ext w4, Below w.heap.size w X.w := fun X => hbw.trans (X.b.mono hz)
    (refine wp_region_ext (by kernel_rfl) (by kernel_rfl) ?_; (repeat (go_big_quiet_step (first | (go_at_call 64; with_reducible exact Calls.ext_of (Ho1 _ (hK _))) | (go_at_call 64; with_reducible exact Calls.ext_of (Ho2 _ (hK _)))))); refine wpQuiet_nil ?_; rintro w5 ⟨x5, hx5⟩; have hb5 := x5.b; rw [← hx5] at hb5; clear hx5 x5; obtain ⟨hc5, hf5⟩ := bcell hb5; (try simp only [World.heap_drewN, World.cell?_drewN, World.frozen?_drewN] at hc5 hf5); have hz5 := hb5.size; (try simp at hz5); (try have hy5_0 : w.heap.size < w5.heap.size := by omega); (try have hy5_1 : w.heap.size + 1 < w5.heap.size := by omega); (try have hy5_2 : w.heap.size + 2 < w5.heap.size := by omega); (try have hy5_3 : w.heap.size + 3 < w5.heap.size := by omega); (try have hx5_0 : w.heap.size ≤ w5.heap.size := by omega); (try have hx5_1 : w.heap.size + 1 ≤ w5.heap.size := by omega); (try have hx5_2 : w.heap.size + 2 ≤ w5.heap.size := by omega); (try have hu5_w4_0 : w4.heap.size < w5.heap.size := by omega); (try have hu5_w4_1 : w4.heap.size + 1 < w5.heap.size := by omega))
    go_wp2_with fail
    go_ret
    exact ⟨rfl, by (repeat (first | with_reducible exact Below.refl _ _ | ((with_reducible refine Below.alloc1 ?_ ?_ _); (· first | omega | (simp; done) | (simp; omega))) | (with_reducible refine Below.drew ?_) | (with_reducible refine below_drewN' ?_ _) | ((with_reducible refine Below.setCell1 ?_ ?_ _); (· first | omega | (simp; done) | (simp; omega))) | ((with_reducible refine Below.after (by assumption) ?_ ?_); (· first | omega | (simp; done) | (simp; omega)))))⟩
  cases o3
  · show Calls _ _ _ _ (Ret (.int .i64 42) w)
    go_enter Tryz.func23, Tryz.ntmps23
    go_upto_region 9 with (first | (go_at_call 59; (with_reducible refine (Hn _).mono ?_); rintro e w1 ⟨rfl, hb1⟩; obtain ⟨hc1, hf1⟩ := bcell hb1; (try simp only [World.heap_drewN, World.cell?_drewN, World.frozen?_drewN] at hc1 hf1); have hz1 := hb1.size; (try simp at hz1); (try have hy1_0 : w.heap.size < w1.heap.size := by omega); (try have hy1_1 : w.heap.size + 1 < w1.heap.size := by omega); (try have hy1_2 : w.heap.size + 2 < w1.heap.size := by omega); (try have hy1_3 : w.heap.size + 3 < w1.heap.size := by omega); (try have hx1_0 : w.heap.size ≤ w1.heap.size := by omega); (try have hx1_1 : w.heap.size + 1 ≤ w1.heap.size := by omega); (try have hx1_2 : w.heap.size + 2 ≤ w1.heap.size := by omega)) | (go_at_call 60; (with_reducible refine (Hm _).mono ?_); rintro e w2 ⟨rfl, hb2⟩; obtain ⟨hc2, hf2⟩ := bcell hb2; (try simp only [World.heap_drewN, World.cell?_drewN, World.frozen?_drewN] at hc2 hf2); have hz2 := hb2.size; (try simp at hz2); (try have hy2_0 : w.heap.size < w2.heap.size := by omega); (try have hy2_1 : w.heap.size + 1 < w2.heap.size := by omega); (try have hy2_2 : w.heap.size + 2 < w2.heap.size := by omega); (try have hy2_3 : w.heap.size + 3 < w2.heap.size := by omega); (try have hx2_0 : w.heap.size ≤ w2.heap.size := by omega); (try have hx2_1 : w.heap.size + 1 ≤ w2.heap.size := by omega); (try have hx2_2 : w.heap.size + 2 ≤ w2.heap.size := by omega)) | (go_at_call 61; (with_reducible refine (Ha1 _ (by (repeat (first | with_reducible exact Below.refl _ _ | ((with_reducible refine Below.alloc1 ?_ ?_ _); (· first | omega | (simp; done) | (simp; omega))) | (with_reducible refine Below.drew ?_) | (with_reducible refine below_drewN' ?_ _) | ((with_reducible refine Below.setCell1 ?_ ?_ _); (· first | omega | (simp; done) | (simp; omega))) | ((with_reducible refine Below.after (by assumption) ?_ ?_); (· first | omega | (simp; done) | (simp; omega))))))).mono ?_); rintro e w3 ⟨rfl, hb3⟩; obtain ⟨hc3, hf3⟩ := bcell hb3; (try simp only [World.heap_drewN, World.cell?_drewN, World.frozen?_drewN] at hc3 hf3); have hz3 := hb3.size; (try simp at hz3); (try have hy3_0 : w.heap.size < w3.heap.size := by omega); (try have hy3_1 : w.heap.size + 1 < w3.heap.size := by omega); (try have hy3_2 : w.heap.size + 2 < w3.heap.size := by omega); (try have hy3_3 : w.heap.size + 3 < w3.heap.size := by omega); (try have hx3_0 : w.heap.size ≤ w3.heap.size := by omega); (try have hx3_1 : w.heap.size + 1 ≤ w3.heap.size := by omega); (try have hx3_2 : w.heap.size + 2 ≤ w3.heap.size := by omega)) | (go_at_call 61; (with_reducible refine (Ha2 _ (by (repeat (first | with_reducible exact Below.refl _ _ | ((with_reducible refine Below.alloc1 ?_ ?_ _); (· first | omega | (simp; done) | (simp; omega))) | (with_reducible refine Below.drew ?_) | (with_reducible refine below_drewN' ?_ _) | ((with_reducible refine Below.setCell1 ?_ ?_ _); (· first | omega | (simp; done) | (simp; omega))) | ((with_reducible refine Below.after (by assumption) ?_ ?_); (· first | omega | (simp; done) | (simp; omega))))))).mono ?_); rintro e w3 ⟨rfl, hb3⟩; obtain ⟨hc3, hf3⟩ := bcell hb3; (try simp only [World.heap_drewN, World.cell?_drewN, World.frozen?_drewN] at hc3 hf3); have hz3 := hb3.size; (try simp at hz3); (try have hy3_0 : w.heap.size < w3.heap.size := by omega); (try have hy3_1 : w.heap.size + 1 < w3.heap.size := by omega); (try have hy3_2 : w.heap.size + 2 < w3.heap.size := by omega); (try have hy3_3 : w.heap.size + 3 < w3.heap.size := by omega); (try have hx3_0 : w.heap.size ≤ w3.heap.size := by omega); (try have hx3_1 : w.heap.size + 1 ≤ w3.heap.size := by omega); (try have hx3_2 : w.heap.size + 2 ≤ w3.heap.size := by omega)) | (go_at_call 31; (with_reducible refine (He _ (by (repeat (first | with_reducible exact Below.refl _ _ | ((with_reducible refine Below.alloc1 ?_ ?_ _); (· first | omega | (simp; done) | (simp; omega))) | (with_reducible refine Below.drew ?_) | (with_reducible refine below_drewN' ?_ _) | ((with_reducible refine Below.setCell1 ?_ ?_ _); (· first | omega | (simp; done) | (simp; omega))) | ((with_reducible refine Below.after (by assumption) ?_ ?_); (· first | omega | (simp; done) | (simp; omega))))))).mono ?_); rintro e w4 ⟨rfl, hb4⟩; obtain ⟨hc4, hf4⟩ := bcell hb4; (try simp only [World.heap_drewN, World.cell?_drewN, World.frozen?_drewN] at hc4 hf4); have hz4 := hb4.size; (try simp at hz4); (try have hy4_0 : w.heap.size < w4.heap.size := by omega); (try have hy4_1 : w.heap.size + 1 < w4.heap.size := by omega); (try have hy4_2 : w.heap.size + 2 < w4.heap.size := by omega); (try have hy4_3 : w.heap.size + 3 < w4.heap.size := by omega); (try have hx4_0 : w.heap.size ≤ w4.heap.size := by omega); (try have hx4_1 : w.heap.size + 1 ≤ w4.heap.size := by omega); (try have hx4_2 : w.heap.size + 2 ≤ w4.heap.size := by omega)))
    have hbw : Below w.heap.size w w4 := by (repeat (first | with_reducible exact Below.refl _ _ | ((with_reducible refine Below.alloc1 ?_ ?_ _); (· first | omega | (simp; done) | (simp; omega))) | (with_reducible refine Below.drew ?_) | (with_reducible refine below_drewN' ?_ _) | ((with_reducible refine Below.setCell1 ?_ ?_ _); (· first | omega | (simp; done) | (simp; omega))) | ((with_reducible refine Below.after (by assumption) ?_ ?_); (· first | omega | (simp; done) | (simp; omega)))))
    have hz := hbw.size
    refine wp_region_notesG [Note.val (.pointer (some ⟨w.heap.size, 3, none⟩)), Note.val (.slice ra n1 rc), Note.val (.bool true), Note.val (.bool false), Note.val (.bool false), Note.val (.pointer (some ⟨w.heap.size, 5, none⟩)), Note.val (.slice wa n3 wc), Note.val (.bool true), Note.val (.bool false), Note.val (.bool false), Note.val (.bool false), Note.val (.pointer (some ⟨w.heap.size, 4, none⟩)), Note.val (.slice sa n2 sc), Note.val (.pointer (some ⟨w.heap.size, 4, none⟩)), Note.val (.slice sa n2 sc), Note.fits (FormsRow G) (fun _ _ _ h hb => h.below hb), Note.val (.bool false), Note.val (.bool true), Note.val (.bool true), Note.val (.bool true)] rfl (by kernel_rfl) (by kernel_rfl) ?_ ?_
    · simp only [List.length_cons, List.length_nil, Nat.reduceAdd, List.take_succ_cons, List.take_zero, StepsG, List.nil_append, List.cons_append]
      refine ⟨?_, ?_, ?_, ?_, ?_, ?_, ?_, ?_, ?_, ?_, ?_, ?_, ?_, ?_, ?_, ?_, ?_, ?_, ?_, ?_, trivial⟩
      · (first | refine StepG.run rfl ?_ | refine StepG.on rfl rfl ?_)
        (try dsimp only)
        intro u w5 hb5 hd
        obtain ⟨hc5, hf5⟩ := bcell hb5
        have hz5 := hb5.size
        (try (simp [Region.binds, Note.phi] at hd))
        (try simp only [putsFrom, Act.put, List.setIfInBounds_toArray, List.set_cons_zero, List.set_cons_succ, Nat.zero_add, Nat.reduceAdd])
        (try simp only [hd])
        revert hd
        ((try simp only [and_imp]); intros)
        go_wp2_with fail
        exact ⟨rfl, Below.refl _ _, rfl⟩
      · (first | refine StepG.run rfl ?_ | refine StepG.on rfl rfl ?_)
        (try dsimp only)
        intro u w5 hb5 hd
        obtain ⟨hc5, hf5⟩ := bcell hb5
        have hz5 := hb5.size
        (try (simp [Region.binds, Note.phi] at hd))
        (try simp only [putsFrom, Act.put, List.setIfInBounds_toArray, List.set_cons_zero, List.set_cons_succ, Nat.zero_add, Nat.reduceAdd])
        (try simp only [hd])
        revert hd
        ((try simp only [and_imp]); intros)
        go_wp2_with fail
        exact ⟨rfl, Below.refl _ _, rfl⟩
      · (first | refine StepG.run rfl ?_ | refine StepG.on rfl rfl ?_)
        (try dsimp only)
        intro u w5 hb5 hd
        obtain ⟨hc5, hf5⟩ := bcell hb5
        have hz5 := hb5.size
        (try (simp [Region.binds, Note.phi] at hd))
        (try simp only [putsFrom, Act.put, List.setIfInBounds_toArray, List.set_cons_zero, List.set_cons_succ, Nat.zero_add, Nat.reduceAdd])
        (try simp only [hd])
        revert hd
        ((try simp only [and_imp]); intros)
        go_wp2_with (go_at_call 64; (with_reducible refine (Ho1 _ (by (repeat (first | with_reducible exact Below.refl _ _ | ((with_reducible refine Below.alloc1 ?_ ?_ _); (· first | omega | (simp; done) | (simp; omega))) | (with_reducible refine Below.drew ?_) | (with_reducible refine below_drewN' ?_ _) | ((with_reducible refine Below.setCell1 ?_ ?_ _); (· first | omega | (simp; done) | (simp; omega))) | ((with_reducible refine Below.after (by assumption) ?_ ?_); (· first | omega | (simp; done) | (simp; omega))))))).mono ?_); rintro e wy ⟨rfl, hby⟩)
        exact ⟨rfl, by (repeat (first | with_reducible exact Below.refl _ _ | ((with_reducible refine Below.alloc1 ?_ ?_ _); (· first | omega | (simp; done) | (simp; omega))) | (with_reducible refine Below.drew ?_) | (with_reducible refine below_drewN' ?_ _) | ((with_reducible refine Below.setCell1 ?_ ?_ _); (· first | omega | (simp; done) | (simp; omega))) | ((with_reducible refine Below.after (by assumption) ?_ ?_); (· first | omega | (simp; done) | (simp; omega))))), rfl⟩
      · (first | refine StepG.run rfl ?_ | refine StepG.on rfl rfl ?_)
        (try dsimp only)
        intro u w5 hb5 hd
        obtain ⟨hc5, hf5⟩ := bcell hb5
        have hz5 := hb5.size
        (try (simp [Region.binds, Note.phi] at hd))
        (try simp only [putsFrom, Act.put, List.setIfInBounds_toArray, List.set_cons_zero, List.set_cons_succ, Nat.zero_add, Nat.reduceAdd])
        (try simp only [hd])
        revert hd
        ((try simp only [and_imp]); intros)
        go_wp2_with fail
        exact ⟨rfl, Below.refl _ _, rfl⟩
      · (first | refine StepG.run rfl ?_ | refine StepG.on rfl rfl ?_)
        (try dsimp only)
        intro u w5 hb5 hd
        obtain ⟨hc5, hf5⟩ := bcell hb5
        have hz5 := hb5.size
        (try (simp [Region.binds, Note.phi] at hd))
        (try simp only [putsFrom, Act.put, List.setIfInBounds_toArray, List.set_cons_zero, List.set_cons_succ, Nat.zero_add, Nat.reduceAdd])
        (try simp only [hd])
        revert hd
        ((try simp only [and_imp]); intros)
        go_wp2_with fail
        exact ⟨rfl, Below.refl _ _, rfl⟩
      · (first | refine StepG.run rfl ?_ | refine StepG.on rfl rfl ?_)
        (try dsimp only)
        intro u w5 hb5 hd
        obtain ⟨hc5, hf5⟩ := bcell hb5
        have hz5 := hb5.size
        (try (simp [Region.binds, Note.phi] at hd))
        (try simp only [putsFrom, Act.put, List.setIfInBounds_toArray, List.set_cons_zero, List.set_cons_succ, Nat.zero_add, Nat.reduceAdd])
        (try simp only [hd])
        revert hd
        ((try simp only [and_imp]); intros)
        go_wp2_with fail
        exact ⟨rfl, Below.refl _ _, rfl⟩
      · (first | refine StepG.run rfl ?_ | refine StepG.on rfl rfl ?_)
        (try dsimp only)
        intro u w5 hb5 hd
        obtain ⟨hc5, hf5⟩ := bcell hb5
        have hz5 := hb5.size
        (try (simp [Region.binds, Note.phi] at hd))
        (try simp only [putsFrom, Act.put, List.setIfInBounds_toArray, List.set_cons_zero, List.set_cons_succ, Nat.zero_add, Nat.reduceAdd])
        (try simp only [hd])
        revert hd
        ((try simp only [and_imp]); intros)
        go_wp2_with fail
        exact ⟨rfl, Below.refl _ _, rfl⟩
      · (first | refine StepG.run rfl ?_ | refine StepG.on rfl rfl ?_)
        (try dsimp only)
        intro u w5 hb5 hd
        obtain ⟨hc5, hf5⟩ := bcell hb5
        have hz5 := hb5.size
        (try (simp [Region.binds, Note.phi] at hd))
        (try simp only [putsFrom, Act.put, List.setIfInBounds_toArray, List.set_cons_zero, List.set_cons_succ, Nat.zero_add, Nat.reduceAdd])
        (try simp only [hd])
        revert hd
        ((try simp only [and_imp]); intros)
        go_wp2_with (go_at_call 64; (with_reducible refine (Ho2 _ (by (repeat (first | with_reducible exact Below.refl _ _ | ((with_reducible refine Below.alloc1 ?_ ?_ _); (· first | omega | (simp; done) | (simp; omega))) | (with_reducible refine Below.drew ?_) | (with_reducible refine below_drewN' ?_ _) | ((with_reducible refine Below.setCell1 ?_ ?_ _); (· first | omega | (simp; done) | (simp; omega))) | ((with_reducible refine Below.after (by assumption) ?_ ?_); (· first | omega | (simp; done) | (simp; omega))))))).mono ?_); rintro e wy ⟨rfl, hby⟩)
        exact ⟨rfl, by (repeat (first | with_reducible exact Below.refl _ _ | ((with_reducible refine Below.alloc1 ?_ ?_ _); (· first | omega | (simp; done) | (simp; omega))) | (with_reducible refine Below.drew ?_) | (with_reducible refine below_drewN' ?_ _) | ((with_reducible refine Below.setCell1 ?_ ?_ _); (· first | omega | (simp; done) | (simp; omega))) | ((with_reducible refine Below.after (by assumption) ?_ ?_); (· first | omega | (simp; done) | (simp; omega))))), rfl⟩
      · (first | refine StepG.run rfl ?_ | refine StepG.on rfl rfl ?_)
        (try dsimp only)
        intro u w5 hb5 hd
        obtain ⟨hc5, hf5⟩ := bcell hb5
        have hz5 := hb5.size
        (try (simp [Region.binds, Note.phi] at hd))
        (try simp only [putsFrom, Act.put, List.setIfInBounds_toArray, List.set_cons_zero, List.set_cons_succ, Nat.zero_add, Nat.reduceAdd])
        (try simp only [hd])
        revert hd
        ((try simp only [and_imp]); intros)
        go_wp2_with fail
        exact ⟨rfl, Below.refl _ _, rfl⟩
      · (first | refine StepG.run rfl ?_ | refine StepG.on rfl rfl ?_)
        (try dsimp only)
        intro u w5 hb5 hd
        obtain ⟨hc5, hf5⟩ := bcell hb5
        have hz5 := hb5.size
        (try (simp [Region.binds, Note.phi] at hd))
        (try simp only [putsFrom, Act.put, List.setIfInBounds_toArray, List.set_cons_zero, List.set_cons_succ, Nat.zero_add, Nat.reduceAdd])
        (try simp only [hd])
        revert hd
        ((try simp only [and_imp]); intros)
        go_wp2_with fail
        exact ⟨rfl, Below.refl _ _, rfl⟩
      · (first | refine StepG.run rfl ?_ | refine StepG.on rfl rfl ?_)
        (try dsimp only)
        intro u w5 hb5 hd
        obtain ⟨hc5, hf5⟩ := bcell hb5
        have hz5 := hb5.size
        (try (simp [Region.binds, Note.phi] at hd))
        (try simp only [putsFrom, Act.put, List.setIfInBounds_toArray, List.set_cons_zero, List.set_cons_succ, Nat.zero_add, Nat.reduceAdd])
        (try simp only [hd])
        revert hd
        ((try simp only [and_imp]); intros)
        go_wp2_with fail
        exact ⟨rfl, Below.refl _ _, rfl⟩
      · (first | refine StepG.run rfl ?_ | refine StepG.on rfl rfl ?_)
        (try dsimp only)
        intro u w5 hb5 hd
        obtain ⟨hc5, hf5⟩ := bcell hb5
        have hz5 := hb5.size
        (try (simp [Region.binds, Note.phi] at hd))
        (try simp only [putsFrom, Act.put, List.setIfInBounds_toArray, List.set_cons_zero, List.set_cons_succ, Nat.zero_add, Nat.reduceAdd])
        (try simp only [hd])
        revert hd
        ((try simp only [and_imp]); intros)
        go_wp2_with fail
        exact ⟨rfl, Below.refl _ _, rfl⟩
      · (first | refine StepG.run rfl ?_ | refine StepG.on rfl rfl ?_)
        (try dsimp only)
        intro u w5 hb5 hd
        obtain ⟨hc5, hf5⟩ := bcell hb5
        have hz5 := hb5.size
        (try (simp [Region.binds, Note.phi] at hd))
        (try simp only [putsFrom, Act.put, List.setIfInBounds_toArray, List.set_cons_zero, List.set_cons_succ, Nat.zero_add, Nat.reduceAdd])
        (try simp only [hd])
        revert hd
        ((try simp only [and_imp]); intros)
        go_wp2_with fail
        exact ⟨rfl, Below.refl _ _, rfl⟩
      · (first | refine StepG.run rfl ?_ | refine StepG.on rfl rfl ?_)
        (try dsimp only)
        intro u w5 hb5 hd
        obtain ⟨hc5, hf5⟩ := bcell hb5
        have hz5 := hb5.size
        (try (simp [Region.binds, Note.phi] at hd))
        (try simp only [putsFrom, Act.put, List.setIfInBounds_toArray, List.set_cons_zero, List.set_cons_succ, Nat.zero_add, Nat.reduceAdd])
        (try simp only [hd])
        revert hd
        ((try simp only [and_imp]); intros)
        go_wp2_with fail
        exact ⟨rfl, Below.refl _ _, rfl⟩
      · (first | refine StepG.run rfl ?_ | refine StepG.on rfl rfl ?_)
        (try dsimp only)
        intro u w5 hb5 hd
        obtain ⟨hc5, hf5⟩ := bcell hb5
        have hz5 := hb5.size
        (try (simp [Region.binds, Note.phi] at hd))
        (try simp only [putsFrom, Act.put, List.setIfInBounds_toArray, List.set_cons_zero, List.set_cons_succ, Nat.zero_add, Nat.reduceAdd])
        (try simp only [hd])
        revert hd
        ((try simp only [and_imp]); intros)
        go_wp2_with fail
        exact ⟨rfl, Below.refl _ _, rfl⟩
      · (first | refine StepG.run rfl ?_ | refine StepG.on rfl rfl ?_)
        (try dsimp only)
        intro u w5 hb5 hd
        obtain ⟨hc5, hf5⟩ := bcell hb5
        have hz5 := hb5.size
        (try (simp [Region.binds, Note.phi] at hd))
        (try simp only [putsFrom, Act.put, List.setIfInBounds_toArray, List.set_cons_zero, List.set_cons_succ, Nat.zero_add, Nat.reduceAdd])
        (try simp only [hd])
        revert hd
        ((try simp only [and_imp]); intros)
        go_wp2_with (go_at_call 30; (with_reducible refine (HNm _ (by (repeat (first | with_reducible exact Below.refl _ _ | ((with_reducible refine Below.alloc1 ?_ ?_ _); (· first | omega | (simp; done) | (simp; omega))) | (with_reducible refine Below.drew ?_) | (with_reducible refine below_drewN' ?_ _) | ((with_reducible refine Below.setCell1 ?_ ?_ _); (· first | omega | (simp; done) | (simp; omega))) | ((with_reducible refine Below.after (by assumption) ?_ ?_); (· first | omega | (simp; done) | (simp; omega))))))).mono ?_); rintro e wy ⟨vy, rfl, hpy, hby⟩)
        exact ⟨rfl, by (repeat (first | with_reducible exact Below.refl _ _ | ((with_reducible refine Below.alloc1 ?_ ?_ _); (· first | omega | (simp; done) | (simp; omega))) | (with_reducible refine Below.drew ?_) | (with_reducible refine below_drewN' ?_ _) | ((with_reducible refine Below.setCell1 ?_ ?_ _); (· first | omega | (simp; done) | (simp; omega))) | ((with_reducible refine Below.after (by assumption) ?_ ?_); (· first | omega | (simp; done) | (simp; omega))))), by assumption⟩
      · (first | refine StepG.run rfl ?_ | refine StepG.on rfl rfl ?_)
        (try dsimp only)
        intro u w5 hb5 hd
        obtain ⟨hc5, hf5⟩ := bcell hb5
        have hz5 := hb5.size
        (try (simp [Region.binds, Note.phi] at hd))
        (try simp only [putsFrom, Act.put, List.setIfInBounds_toArray, List.set_cons_zero, List.set_cons_succ, Nat.zero_add, Nat.reduceAdd])
        (try simp only [hd])
        revert hd
        ((try simp only [and_imp]); intros)
        go_wp2_with (go_at_call 65; (with_reducible refine (HEq _ _ (by assumption) (by (repeat (first | with_reducible exact Below.refl _ _ | ((with_reducible refine Below.alloc1 ?_ ?_ _); (· first | omega | (simp; done) | (simp; omega))) | (with_reducible refine Below.drew ?_) | (with_reducible refine below_drewN' ?_ _) | ((with_reducible refine Below.setCell1 ?_ ?_ _); (· first | omega | (simp; done) | (simp; omega))) | ((with_reducible refine Below.after (by assumption) ?_ ?_); (· first | omega | (simp; done) | (simp; omega))))))).mono ?_); rintro e wy ⟨rfl, hby⟩)
        exact ⟨rfl, by (repeat (first | with_reducible exact Below.refl _ _ | ((with_reducible refine Below.alloc1 ?_ ?_ _); (· first | omega | (simp; done) | (simp; omega))) | (with_reducible refine Below.drew ?_) | (with_reducible refine below_drewN' ?_ _) | ((with_reducible refine Below.setCell1 ?_ ?_ _); (· first | omega | (simp; done) | (simp; omega))) | ((with_reducible refine Below.after (by assumption) ?_ ?_); (· first | omega | (simp; done) | (simp; omega))))), rfl⟩
      · (first | refine StepG.run rfl ?_ | refine StepG.on rfl rfl ?_)
        (try dsimp only)
        intro u w5 hb5 hd
        obtain ⟨hc5, hf5⟩ := bcell hb5
        have hz5 := hb5.size
        (try (simp [Region.binds, Note.phi] at hd))
        (try simp only [putsFrom, Act.put, List.setIfInBounds_toArray, List.set_cons_zero, List.set_cons_succ, Nat.zero_add, Nat.reduceAdd])
        (try simp only [hd])
        revert hd
        ((try simp only [and_imp]); intros)
        go_wp2_with fail
        exact ⟨rfl, Below.refl _ _, rfl⟩
      · (first | refine StepG.run rfl ?_ | refine StepG.on rfl rfl ?_)
        (try dsimp only)
        intro u w5 hb5 hd
        obtain ⟨hc5, hf5⟩ := bcell hb5
        have hz5 := hb5.size
        (try (simp [Region.binds, Note.phi] at hd))
        (try simp only [putsFrom, Act.put, List.setIfInBounds_toArray, List.set_cons_zero, List.set_cons_succ, Nat.zero_add, Nat.reduceAdd])
        (try simp only [hd])
        revert hd
        ((try simp only [and_imp]); intros)
        go_wp2_with fail
        exact ⟨rfl, Below.refl _ _, rfl⟩
      · (first | refine StepG.run rfl ?_ | refine StepG.on rfl rfl ?_)
        (try dsimp only)
        intro u w5 hb5 hd
        obtain ⟨hc5, hf5⟩ := bcell hb5
        have hz5 := hb5.size
        (try (simp [Region.binds, Note.phi] at hd))
        (try simp only [putsFrom, Act.put, List.setIfInBounds_toArray, List.set_cons_zero, List.set_cons_succ, Nat.zero_add, Nat.reduceAdd])
        (try simp only [hd])
        revert hd
        ((try simp only [and_imp]); intros)
        go_wp2_with fail
        exact ⟨rfl, Below.refl _ _, rfl⟩
    · intro u w5 hb5 hph hap
      obtain ⟨hc5, hf5⟩ := bcell hb5
      have hz5 := hb5.size
      have hp0 := hph 0 (by simp)
      have hp1 := hph 1 (by simp)
      have hp2 := hph 2 (by simp)
      have hp3 := hph 3 (by simp)
      have hp4 := hph 4 (by simp)
      have hp5 := hph 5 (by simp)
      have hp6 := hph 6 (by simp)
      have hp7 := hph 7 (by simp)
      have hp8 := hph 8 (by simp)
      have hp9 := hph 9 (by simp)
      have hp10 := hph 10 (by simp)
      have hp11 := hph 11 (by simp)
      have hp12 := hph 12 (by simp)
      have hp13 := hph 13 (by simp)
      have hp14 := hph 14 (by simp)
      have hp15 := hph 15 (by simp)
      have hp16 := hph 16 (by simp)
      have hp17 := hph 17 (by simp)
      have hp18 := hph 18 (by simp)
      have hp19 := hph 19 (by simp)
      clear hph hap
      simp only [List.length_cons, List.length_nil, List.take_succ_cons, List.take_zero, List.drop_succ_cons, List.drop_zero, putsFrom, Act.put, List.setIfInBounds_toArray, List.set_cons_zero, List.set_cons_succ, Nat.zero_add, Nat.reduceAdd]
      generalize u 0 = u0 at *
      cases hp0
      generalize u 1 = u1 at *
      cases hp1
      generalize u 2 = u2 at *
      cases hp2
      generalize u 3 = u3 at *
      cases hp3
      generalize u 4 = u4 at *
      cases hp4
      generalize u 5 = u5 at *
      cases hp5
      generalize u 6 = u6 at *
      cases hp6
      generalize u 7 = u7 at *
      cases hp7
      generalize u 8 = u8 at *
      cases hp8
      generalize u 9 = u9 at *
      cases hp9
      generalize u 10 = u10 at *
      cases hp10
      generalize u 11 = u11 at *
      cases hp11
      generalize u 12 = u12 at *
      cases hp12
      generalize u 13 = u13 at *
      cases hp13
      generalize u 14 = u14 at *
      cases hp14
      generalize u 15 = u15 at *
      have hp15 : (FormsRow G) u15 w5 := hp15
      generalize u 16 = u16 at *
      cases hp16
      generalize u 17 = u17 at *
      cases hp17
      generalize u 18 = u18 at *
      cases hp18
      generalize u 19 = u19 at *
      cases hp19
      clear u
      go_wp2_with fail
      go_ret
      exact ⟨rfl, by (repeat (first | with_reducible exact Below.refl _ _ | ((with_reducible refine Below.alloc1 ?_ ?_ _); (· first | omega | (simp; done) | (simp; omega))) | (with_reducible refine Below.drew ?_) | (with_reducible refine below_drewN' ?_ _) | ((with_reducible refine Below.setCell1 ?_ ?_ _); (· first | omega | (simp; done) | (simp; omega))) | ((with_reducible refine Below.after (by assumption) ?_ ?_); (· first | omega | (simp; done) | (simp; omega)))))⟩
  · show Calls _ _ _ _ (Ret (.int .i64 0) w)
    go_enter Tryz.func23, Tryz.ntmps23
    go_upto_region 9 with (first | (go_at_call 59; (with_reducible refine (Hn _).mono ?_); rintro e w1 ⟨rfl, hb1⟩; obtain ⟨hc1, hf1⟩ := bcell hb1; (try simp only [World.heap_drewN, World.cell?_drewN, World.frozen?_drewN] at hc1 hf1); have hz1 := hb1.size; (try simp at hz1); (try have hy1_0 : w.heap.size < w1.heap.size := by omega); (try have hy1_1 : w.heap.size + 1 < w1.heap.size := by omega); (try have hy1_2 : w.heap.size + 2 < w1.heap.size := by omega); (try have hy1_3 : w.heap.size + 3 < w1.heap.size := by omega); (try have hx1_0 : w.heap.size ≤ w1.heap.size := by omega); (try have hx1_1 : w.heap.size + 1 ≤ w1.heap.size := by omega); (try have hx1_2 : w.heap.size + 2 ≤ w1.heap.size := by omega)) | (go_at_call 60; (with_reducible refine (Hm _).mono ?_); rintro e w2 ⟨rfl, hb2⟩; obtain ⟨hc2, hf2⟩ := bcell hb2; (try simp only [World.heap_drewN, World.cell?_drewN, World.frozen?_drewN] at hc2 hf2); have hz2 := hb2.size; (try simp at hz2); (try have hy2_0 : w.heap.size < w2.heap.size := by omega); (try have hy2_1 : w.heap.size + 1 < w2.heap.size := by omega); (try have hy2_2 : w.heap.size + 2 < w2.heap.size := by omega); (try have hy2_3 : w.heap.size + 3 < w2.heap.size := by omega); (try have hx2_0 : w.heap.size ≤ w2.heap.size := by omega); (try have hx2_1 : w.heap.size + 1 ≤ w2.heap.size := by omega); (try have hx2_2 : w.heap.size + 2 ≤ w2.heap.size := by omega)) | (go_at_call 61; (with_reducible refine (Ha1 _ (by (repeat (first | with_reducible exact Below.refl _ _ | ((with_reducible refine Below.alloc1 ?_ ?_ _); (· first | omega | (simp; done) | (simp; omega))) | (with_reducible refine Below.drew ?_) | (with_reducible refine below_drewN' ?_ _) | ((with_reducible refine Below.setCell1 ?_ ?_ _); (· first | omega | (simp; done) | (simp; omega))) | ((with_reducible refine Below.after (by assumption) ?_ ?_); (· first | omega | (simp; done) | (simp; omega))))))).mono ?_); rintro e w3 ⟨rfl, hb3⟩; obtain ⟨hc3, hf3⟩ := bcell hb3; (try simp only [World.heap_drewN, World.cell?_drewN, World.frozen?_drewN] at hc3 hf3); have hz3 := hb3.size; (try simp at hz3); (try have hy3_0 : w.heap.size < w3.heap.size := by omega); (try have hy3_1 : w.heap.size + 1 < w3.heap.size := by omega); (try have hy3_2 : w.heap.size + 2 < w3.heap.size := by omega); (try have hy3_3 : w.heap.size + 3 < w3.heap.size := by omega); (try have hx3_0 : w.heap.size ≤ w3.heap.size := by omega); (try have hx3_1 : w.heap.size + 1 ≤ w3.heap.size := by omega); (try have hx3_2 : w.heap.size + 2 ≤ w3.heap.size := by omega)) | (go_at_call 61; (with_reducible refine (Ha2 _ (by (repeat (first | with_reducible exact Below.refl _ _ | ((with_reducible refine Below.alloc1 ?_ ?_ _); (· first | omega | (simp; done) | (simp; omega))) | (with_reducible refine Below.drew ?_) | (with_reducible refine below_drewN' ?_ _) | ((with_reducible refine Below.setCell1 ?_ ?_ _); (· first | omega | (simp; done) | (simp; omega))) | ((with_reducible refine Below.after (by assumption) ?_ ?_); (· first | omega | (simp; done) | (simp; omega))))))).mono ?_); rintro e w3 ⟨rfl, hb3⟩; obtain ⟨hc3, hf3⟩ := bcell hb3; (try simp only [World.heap_drewN, World.cell?_drewN, World.frozen?_drewN] at hc3 hf3); have hz3 := hb3.size; (try simp at hz3); (try have hy3_0 : w.heap.size < w3.heap.size := by omega); (try have hy3_1 : w.heap.size + 1 < w3.heap.size := by omega); (try have hy3_2 : w.heap.size + 2 < w3.heap.size := by omega); (try have hy3_3 : w.heap.size + 3 < w3.heap.size := by omega); (try have hx3_0 : w.heap.size ≤ w3.heap.size := by omega); (try have hx3_1 : w.heap.size + 1 ≤ w3.heap.size := by omega); (try have hx3_2 : w.heap.size + 2 ≤ w3.heap.size := by omega)) | (go_at_call 31; (with_reducible refine (He _ (by (repeat (first | with_reducible exact Below.refl _ _ | ((with_reducible refine Below.alloc1 ?_ ?_ _); (· first | omega | (simp; done) | (simp; omega))) | (with_reducible refine Below.drew ?_) | (with_reducible refine below_drewN' ?_ _) | ((with_reducible refine Below.setCell1 ?_ ?_ _); (· first | omega | (simp; done) | (simp; omega))) | ((with_reducible refine Below.after (by assumption) ?_ ?_); (· first | omega | (simp; done) | (simp; omega))))))).mono ?_); rintro e w4 ⟨rfl, hb4⟩; obtain ⟨hc4, hf4⟩ := bcell hb4; (try simp only [World.heap_drewN, World.cell?_drewN, World.frozen?_drewN] at hc4 hf4); have hz4 := hb4.size; (try simp at hz4); (try have hy4_0 : w.heap.size < w4.heap.size := by omega); (try have hy4_1 : w.heap.size + 1 < w4.heap.size := by omega); (try have hy4_2 : w.heap.size + 2 < w4.heap.size := by omega); (try have hy4_3 : w.heap.size + 3 < w4.heap.size := by omega); (try have hx4_0 : w.heap.size ≤ w4.heap.size := by omega); (try have hx4_1 : w.heap.size + 1 ≤ w4.heap.size := by omega); (try have hx4_2 : w.heap.size + 2 ≤ w4.heap.size := by omega)))
    have hbw : Below w.heap.size w w4 := by (repeat (first | with_reducible exact Below.refl _ _ | ((with_reducible refine Below.alloc1 ?_ ?_ _); (· first | omega | (simp; done) | (simp; omega))) | (with_reducible refine Below.drew ?_) | (with_reducible refine below_drewN' ?_ _) | ((with_reducible refine Below.setCell1 ?_ ?_ _); (· first | omega | (simp; done) | (simp; omega))) | ((with_reducible refine Below.after (by assumption) ?_ ?_); (· first | omega | (simp; done) | (simp; omega)))))
    have hz := hbw.size
    refine wp_region_notesG [Note.val (.pointer (some ⟨w.heap.size, 3, none⟩)), Note.val (.slice ra n1 rc), Note.val (.bool true), Note.val (.bool false), Note.val (.bool false), Note.val (.pointer (some ⟨w.heap.size, 5, none⟩)), Note.val (.slice wa n3 wc), Note.val (.bool true), Note.val (.bool false), Note.val (.bool false), Note.val (.bool false), Note.val (.pointer (some ⟨w.heap.size, 4, none⟩)), Note.val (.slice sa n2 sc), Note.val (.pointer (some ⟨w.heap.size, 4, none⟩)), Note.val (.slice sa n2 sc), Note.fits (FormsRow G) (fun _ _ _ h hb => h.below hb), Note.val (.bool true), Note.val (.bool false), Note.val (.bool false), Note.val (.bool false)] rfl (by kernel_rfl) (by kernel_rfl) ?_ ?_
    · simp only [List.length_cons, List.length_nil, Nat.reduceAdd, List.take_succ_cons, List.take_zero, StepsG, List.nil_append, List.cons_append]
      refine ⟨?_, ?_, ?_, ?_, ?_, ?_, ?_, ?_, ?_, ?_, ?_, ?_, ?_, ?_, ?_, ?_, ?_, ?_, ?_, ?_, trivial⟩
      · (first | refine StepG.run rfl ?_ | refine StepG.on rfl rfl ?_)
        (try dsimp only)
        intro u w5 hb5 hd
        obtain ⟨hc5, hf5⟩ := bcell hb5
        have hz5 := hb5.size
        (try (simp [Region.binds, Note.phi] at hd))
        (try simp only [putsFrom, Act.put, List.setIfInBounds_toArray, List.set_cons_zero, List.set_cons_succ, Nat.zero_add, Nat.reduceAdd])
        (try simp only [hd])
        revert hd
        ((try simp only [and_imp]); intros)
        go_wp2_with fail
        exact ⟨rfl, Below.refl _ _, rfl⟩
      · (first | refine StepG.run rfl ?_ | refine StepG.on rfl rfl ?_)
        (try dsimp only)
        intro u w5 hb5 hd
        obtain ⟨hc5, hf5⟩ := bcell hb5
        have hz5 := hb5.size
        (try (simp [Region.binds, Note.phi] at hd))
        (try simp only [putsFrom, Act.put, List.setIfInBounds_toArray, List.set_cons_zero, List.set_cons_succ, Nat.zero_add, Nat.reduceAdd])
        (try simp only [hd])
        revert hd
        ((try simp only [and_imp]); intros)
        go_wp2_with fail
        exact ⟨rfl, Below.refl _ _, rfl⟩
      · (first | refine StepG.run rfl ?_ | refine StepG.on rfl rfl ?_)
        (try dsimp only)
        intro u w5 hb5 hd
        obtain ⟨hc5, hf5⟩ := bcell hb5
        have hz5 := hb5.size
        (try (simp [Region.binds, Note.phi] at hd))
        (try simp only [putsFrom, Act.put, List.setIfInBounds_toArray, List.set_cons_zero, List.set_cons_succ, Nat.zero_add, Nat.reduceAdd])
        (try simp only [hd])
        revert hd
        ((try simp only [and_imp]); intros)
        go_wp2_with (go_at_call 64; (with_reducible refine (Ho1 _ (by (repeat (first | with_reducible exact Below.refl _ _ | ((with_reducible refine Below.alloc1 ?_ ?_ _); (· first | omega | (simp; done) | (simp; omega))) | (with_reducible refine Below.drew ?_) | (with_reducible refine below_drewN' ?_ _) | ((with_reducible refine Below.setCell1 ?_ ?_ _); (· first | omega | (simp; done) | (simp; omega))) | ((with_reducible refine Below.after (by assumption) ?_ ?_); (· first | omega | (simp; done) | (simp; omega))))))).mono ?_); rintro e wy ⟨rfl, hby⟩)
        exact ⟨rfl, by (repeat (first | with_reducible exact Below.refl _ _ | ((with_reducible refine Below.alloc1 ?_ ?_ _); (· first | omega | (simp; done) | (simp; omega))) | (with_reducible refine Below.drew ?_) | (with_reducible refine below_drewN' ?_ _) | ((with_reducible refine Below.setCell1 ?_ ?_ _); (· first | omega | (simp; done) | (simp; omega))) | ((with_reducible refine Below.after (by assumption) ?_ ?_); (· first | omega | (simp; done) | (simp; omega))))), rfl⟩
      · (first | refine StepG.run rfl ?_ | refine StepG.on rfl rfl ?_)
        (try dsimp only)
        intro u w5 hb5 hd
        obtain ⟨hc5, hf5⟩ := bcell hb5
        have hz5 := hb5.size
        (try (simp [Region.binds, Note.phi] at hd))
        (try simp only [putsFrom, Act.put, List.setIfInBounds_toArray, List.set_cons_zero, List.set_cons_succ, Nat.zero_add, Nat.reduceAdd])
        (try simp only [hd])
        revert hd
        ((try simp only [and_imp]); intros)
        go_wp2_with fail
        exact ⟨rfl, Below.refl _ _, rfl⟩
      · (first | refine StepG.run rfl ?_ | refine StepG.on rfl rfl ?_)
        (try dsimp only)
        intro u w5 hb5 hd
        obtain ⟨hc5, hf5⟩ := bcell hb5
        have hz5 := hb5.size
        (try (simp [Region.binds, Note.phi] at hd))
        (try simp only [putsFrom, Act.put, List.setIfInBounds_toArray, List.set_cons_zero, List.set_cons_succ, Nat.zero_add, Nat.reduceAdd])
        (try simp only [hd])
        revert hd
        ((try simp only [and_imp]); intros)
        go_wp2_with fail
        exact ⟨rfl, Below.refl _ _, rfl⟩
      · (first | refine StepG.run rfl ?_ | refine StepG.on rfl rfl ?_)
        (try dsimp only)
        intro u w5 hb5 hd
        obtain ⟨hc5, hf5⟩ := bcell hb5
        have hz5 := hb5.size
        (try (simp [Region.binds, Note.phi] at hd))
        (try simp only [putsFrom, Act.put, List.setIfInBounds_toArray, List.set_cons_zero, List.set_cons_succ, Nat.zero_add, Nat.reduceAdd])
        (try simp only [hd])
        revert hd
        ((try simp only [and_imp]); intros)
        go_wp2_with fail
        exact ⟨rfl, Below.refl _ _, rfl⟩
      · (first | refine StepG.run rfl ?_ | refine StepG.on rfl rfl ?_)
        (try dsimp only)
        intro u w5 hb5 hd
        obtain ⟨hc5, hf5⟩ := bcell hb5
        have hz5 := hb5.size
        (try (simp [Region.binds, Note.phi] at hd))
        (try simp only [putsFrom, Act.put, List.setIfInBounds_toArray, List.set_cons_zero, List.set_cons_succ, Nat.zero_add, Nat.reduceAdd])
        (try simp only [hd])
        revert hd
        ((try simp only [and_imp]); intros)
        go_wp2_with fail
        exact ⟨rfl, Below.refl _ _, rfl⟩
      · (first | refine StepG.run rfl ?_ | refine StepG.on rfl rfl ?_)
        (try dsimp only)
        intro u w5 hb5 hd
        obtain ⟨hc5, hf5⟩ := bcell hb5
        have hz5 := hb5.size
        (try (simp [Region.binds, Note.phi] at hd))
        (try simp only [putsFrom, Act.put, List.setIfInBounds_toArray, List.set_cons_zero, List.set_cons_succ, Nat.zero_add, Nat.reduceAdd])
        (try simp only [hd])
        revert hd
        ((try simp only [and_imp]); intros)
        go_wp2_with (go_at_call 64; (with_reducible refine (Ho2 _ (by (repeat (first | with_reducible exact Below.refl _ _ | ((with_reducible refine Below.alloc1 ?_ ?_ _); (· first | omega | (simp; done) | (simp; omega))) | (with_reducible refine Below.drew ?_) | (with_reducible refine below_drewN' ?_ _) | ((with_reducible refine Below.setCell1 ?_ ?_ _); (· first | omega | (simp; done) | (simp; omega))) | ((with_reducible refine Below.after (by assumption) ?_ ?_); (· first | omega | (simp; done) | (simp; omega))))))).mono ?_); rintro e wy ⟨rfl, hby⟩)
        exact ⟨rfl, by (repeat (first | with_reducible exact Below.refl _ _ | ((with_reducible refine Below.alloc1 ?_ ?_ _); (· first | omega | (simp; done) | (simp; omega))) | (with_reducible refine Below.drew ?_) | (with_reducible refine below_drewN' ?_ _) | ((with_reducible refine Below.setCell1 ?_ ?_ _); (· first | omega | (simp; done) | (simp; omega))) | ((with_reducible refine Below.after (by assumption) ?_ ?_); (· first | omega | (simp; done) | (simp; omega))))), rfl⟩
      · (first | refine StepG.run rfl ?_ | refine StepG.on rfl rfl ?_)
        (try dsimp only)
        intro u w5 hb5 hd
        obtain ⟨hc5, hf5⟩ := bcell hb5
        have hz5 := hb5.size
        (try (simp [Region.binds, Note.phi] at hd))
        (try simp only [putsFrom, Act.put, List.setIfInBounds_toArray, List.set_cons_zero, List.set_cons_succ, Nat.zero_add, Nat.reduceAdd])
        (try simp only [hd])
        revert hd
        ((try simp only [and_imp]); intros)
        go_wp2_with fail
        exact ⟨rfl, Below.refl _ _, rfl⟩
      · (first | refine StepG.run rfl ?_ | refine StepG.on rfl rfl ?_)
        (try dsimp only)
        intro u w5 hb5 hd
        obtain ⟨hc5, hf5⟩ := bcell hb5
        have hz5 := hb5.size
        (try (simp [Region.binds, Note.phi] at hd))
        (try simp only [putsFrom, Act.put, List.setIfInBounds_toArray, List.set_cons_zero, List.set_cons_succ, Nat.zero_add, Nat.reduceAdd])
        (try simp only [hd])
        revert hd
        ((try simp only [and_imp]); intros)
        go_wp2_with fail
        exact ⟨rfl, Below.refl _ _, rfl⟩
      · (first | refine StepG.run rfl ?_ | refine StepG.on rfl rfl ?_)
        (try dsimp only)
        intro u w5 hb5 hd
        obtain ⟨hc5, hf5⟩ := bcell hb5
        have hz5 := hb5.size
        (try (simp [Region.binds, Note.phi] at hd))
        (try simp only [putsFrom, Act.put, List.setIfInBounds_toArray, List.set_cons_zero, List.set_cons_succ, Nat.zero_add, Nat.reduceAdd])
        (try simp only [hd])
        revert hd
        ((try simp only [and_imp]); intros)
        go_wp2_with fail
        exact ⟨rfl, Below.refl _ _, rfl⟩
      · (first | refine StepG.run rfl ?_ | refine StepG.on rfl rfl ?_)
        (try dsimp only)
        intro u w5 hb5 hd
        obtain ⟨hc5, hf5⟩ := bcell hb5
        have hz5 := hb5.size
        (try (simp [Region.binds, Note.phi] at hd))
        (try simp only [putsFrom, Act.put, List.setIfInBounds_toArray, List.set_cons_zero, List.set_cons_succ, Nat.zero_add, Nat.reduceAdd])
        (try simp only [hd])
        revert hd
        ((try simp only [and_imp]); intros)
        go_wp2_with fail
        exact ⟨rfl, Below.refl _ _, rfl⟩
      · (first | refine StepG.run rfl ?_ | refine StepG.on rfl rfl ?_)
        (try dsimp only)
        intro u w5 hb5 hd
        obtain ⟨hc5, hf5⟩ := bcell hb5
        have hz5 := hb5.size
        (try (simp [Region.binds, Note.phi] at hd))
        (try simp only [putsFrom, Act.put, List.setIfInBounds_toArray, List.set_cons_zero, List.set_cons_succ, Nat.zero_add, Nat.reduceAdd])
        (try simp only [hd])
        revert hd
        ((try simp only [and_imp]); intros)
        go_wp2_with fail
        exact ⟨rfl, Below.refl _ _, rfl⟩
      · (first | refine StepG.run rfl ?_ | refine StepG.on rfl rfl ?_)
        (try dsimp only)
        intro u w5 hb5 hd
        obtain ⟨hc5, hf5⟩ := bcell hb5
        have hz5 := hb5.size
        (try (simp [Region.binds, Note.phi] at hd))
        (try simp only [putsFrom, Act.put, List.setIfInBounds_toArray, List.set_cons_zero, List.set_cons_succ, Nat.zero_add, Nat.reduceAdd])
        (try simp only [hd])
        revert hd
        ((try simp only [and_imp]); intros)
        go_wp2_with fail
        exact ⟨rfl, Below.refl _ _, rfl⟩
      · (first | refine StepG.run rfl ?_ | refine StepG.on rfl rfl ?_)
        (try dsimp only)
        intro u w5 hb5 hd
        obtain ⟨hc5, hf5⟩ := bcell hb5
        have hz5 := hb5.size
        (try (simp [Region.binds, Note.phi] at hd))
        (try simp only [putsFrom, Act.put, List.setIfInBounds_toArray, List.set_cons_zero, List.set_cons_succ, Nat.zero_add, Nat.reduceAdd])
        (try simp only [hd])
        revert hd
        ((try simp only [and_imp]); intros)
        go_wp2_with fail
        exact ⟨rfl, Below.refl _ _, rfl⟩
      · (first | refine StepG.run rfl ?_ | refine StepG.on rfl rfl ?_)
        (try dsimp only)
        intro u w5 hb5 hd
        obtain ⟨hc5, hf5⟩ := bcell hb5
        have hz5 := hb5.size
        (try (simp [Region.binds, Note.phi] at hd))
        (try simp only [putsFrom, Act.put, List.setIfInBounds_toArray, List.set_cons_zero, List.set_cons_succ, Nat.zero_add, Nat.reduceAdd])
        (try simp only [hd])
        revert hd
        ((try simp only [and_imp]); intros)
        go_wp2_with (go_at_call 30; (with_reducible refine (HNm _ (by (repeat (first | with_reducible exact Below.refl _ _ | ((with_reducible refine Below.alloc1 ?_ ?_ _); (· first | omega | (simp; done) | (simp; omega))) | (with_reducible refine Below.drew ?_) | (with_reducible refine below_drewN' ?_ _) | ((with_reducible refine Below.setCell1 ?_ ?_ _); (· first | omega | (simp; done) | (simp; omega))) | ((with_reducible refine Below.after (by assumption) ?_ ?_); (· first | omega | (simp; done) | (simp; omega))))))).mono ?_); rintro e wy ⟨vy, rfl, hpy, hby⟩)
        exact ⟨rfl, by (repeat (first | with_reducible exact Below.refl _ _ | ((with_reducible refine Below.alloc1 ?_ ?_ _); (· first | omega | (simp; done) | (simp; omega))) | (with_reducible refine Below.drew ?_) | (with_reducible refine below_drewN' ?_ _) | ((with_reducible refine Below.setCell1 ?_ ?_ _); (· first | omega | (simp; done) | (simp; omega))) | ((with_reducible refine Below.after (by assumption) ?_ ?_); (· first | omega | (simp; done) | (simp; omega))))), by assumption⟩
      · (first | refine StepG.run rfl ?_ | refine StepG.on rfl rfl ?_)
        (try dsimp only)
        intro u w5 hb5 hd
        obtain ⟨hc5, hf5⟩ := bcell hb5
        have hz5 := hb5.size
        (try (simp [Region.binds, Note.phi] at hd))
        (try simp only [putsFrom, Act.put, List.setIfInBounds_toArray, List.set_cons_zero, List.set_cons_succ, Nat.zero_add, Nat.reduceAdd])
        (try simp only [hd])
        revert hd
        ((try simp only [and_imp]); intros)
        go_wp2_with (go_at_call 65; (with_reducible refine (HEq _ _ (by assumption) (by (repeat (first | with_reducible exact Below.refl _ _ | ((with_reducible refine Below.alloc1 ?_ ?_ _); (· first | omega | (simp; done) | (simp; omega))) | (with_reducible refine Below.drew ?_) | (with_reducible refine below_drewN' ?_ _) | ((with_reducible refine Below.setCell1 ?_ ?_ _); (· first | omega | (simp; done) | (simp; omega))) | ((with_reducible refine Below.after (by assumption) ?_ ?_); (· first | omega | (simp; done) | (simp; omega))))))).mono ?_); rintro e wy ⟨rfl, hby⟩)
        exact ⟨rfl, by (repeat (first | with_reducible exact Below.refl _ _ | ((with_reducible refine Below.alloc1 ?_ ?_ _); (· first | omega | (simp; done) | (simp; omega))) | (with_reducible refine Below.drew ?_) | (with_reducible refine below_drewN' ?_ _) | ((with_reducible refine Below.setCell1 ?_ ?_ _); (· first | omega | (simp; done) | (simp; omega))) | ((with_reducible refine Below.after (by assumption) ?_ ?_); (· first | omega | (simp; done) | (simp; omega))))), rfl⟩
      · (first | refine StepG.run rfl ?_ | refine StepG.on rfl rfl ?_)
        (try dsimp only)
        intro u w5 hb5 hd
        obtain ⟨hc5, hf5⟩ := bcell hb5
        have hz5 := hb5.size
        (try (simp [Region.binds, Note.phi] at hd))
        (try simp only [putsFrom, Act.put, List.setIfInBounds_toArray, List.set_cons_zero, List.set_cons_succ, Nat.zero_add, Nat.reduceAdd])
        (try simp only [hd])
        revert hd
        ((try simp only [and_imp]); intros)
        go_wp2_with fail
        exact ⟨rfl, Below.refl _ _, rfl⟩
      · (first | refine StepG.run rfl ?_ | refine StepG.on rfl rfl ?_)
        (try dsimp only)
        intro u w5 hb5 hd
        obtain ⟨hc5, hf5⟩ := bcell hb5
        have hz5 := hb5.size
        (try (simp [Region.binds, Note.phi] at hd))
        (try simp only [putsFrom, Act.put, List.setIfInBounds_toArray, List.set_cons_zero, List.set_cons_succ, Nat.zero_add, Nat.reduceAdd])
        (try simp only [hd])
        revert hd
        ((try simp only [and_imp]); intros)
        go_wp2_with fail
        exact ⟨rfl, Below.refl _ _, rfl⟩
      · (first | refine StepG.run rfl ?_ | refine StepG.on rfl rfl ?_)
        (try dsimp only)
        intro u w5 hb5 hd
        obtain ⟨hc5, hf5⟩ := bcell hb5
        have hz5 := hb5.size
        (try (simp [Region.binds, Note.phi] at hd))
        (try simp only [putsFrom, Act.put, List.setIfInBounds_toArray, List.set_cons_zero, List.set_cons_succ, Nat.zero_add, Nat.reduceAdd])
        (try simp only [hd])
        revert hd
        ((try simp only [and_imp]); intros)
        go_wp2_with fail
        exact ⟨rfl, Below.refl _ _, rfl⟩
    · intro u w5 hb5 hph hap
      obtain ⟨hc5, hf5⟩ := bcell hb5
      have hz5 := hb5.size
      have hp0 := hph 0 (by simp)
      have hp1 := hph 1 (by simp)
      have hp2 := hph 2 (by simp)
      have hp3 := hph 3 (by simp)
      have hp4 := hph 4 (by simp)
      have hp5 := hph 5 (by simp)
      have hp6 := hph 6 (by simp)
      have hp7 := hph 7 (by simp)
      have hp8 := hph 8 (by simp)
      have hp9 := hph 9 (by simp)
      have hp10 := hph 10 (by simp)
      have hp11 := hph 11 (by simp)
      have hp12 := hph 12 (by simp)
      have hp13 := hph 13 (by simp)
      have hp14 := hph 14 (by simp)
      have hp15 := hph 15 (by simp)
      have hp16 := hph 16 (by simp)
      have hp17 := hph 17 (by simp)
      have hp18 := hph 18 (by simp)
      have hp19 := hph 19 (by simp)
      clear hph hap
      simp only [List.length_cons, List.length_nil, List.take_succ_cons, List.take_zero, List.drop_succ_cons, List.drop_zero, putsFrom, Act.put, List.setIfInBounds_toArray, List.set_cons_zero, List.set_cons_succ, Nat.zero_add, Nat.reduceAdd]
      generalize u 0 = u0 at *
      cases hp0
      generalize u 1 = u1 at *
      cases hp1
      generalize u 2 = u2 at *
      cases hp2
      generalize u 3 = u3 at *
      cases hp3
      generalize u 4 = u4 at *
      cases hp4
      generalize u 5 = u5 at *
      cases hp5
      generalize u 6 = u6 at *
      cases hp6
      generalize u 7 = u7 at *
      cases hp7
      generalize u 8 = u8 at *
      cases hp8
      generalize u 9 = u9 at *
      cases hp9
      generalize u 10 = u10 at *
      cases hp10
      generalize u 11 = u11 at *
      cases hp11
      generalize u 12 = u12 at *
      cases hp12
      generalize u 13 = u13 at *
      cases hp13
      generalize u 14 = u14 at *
      cases hp14
      generalize u 15 = u15 at *
      have hp15 : (FormsRow G) u15 w5 := hp15
      generalize u 16 = u16 at *
      cases hp16
      generalize u 17 = u17 at *
      cases hp17
      generalize u 18 = u18 at *
      cases hp18
      generalize u 19 = u19 at *
      cases hp19
      clear u
      go_wp2_with fail
      go_ret
      exact ⟨rfl, by (repeat (first | with_reducible exact Below.refl _ _ | ((with_reducible refine Below.alloc1 ?_ ?_ _); (· first | omega | (simp; done) | (simp; omega))) | (with_reducible refine Below.drew ?_) | (with_reducible refine below_drewN' ?_ _) | ((with_reducible refine Below.setCell1 ?_ ?_ _); (· first | omega | (simp; done) | (simp; omega))) | ((with_reducible refine Below.after (by assumption) ?_ ?_); (· first | omega | (simp; done) | (simp; omega)))))⟩
end Go.Proofs.YtgpkfgeflcdbcaaGreat.K
