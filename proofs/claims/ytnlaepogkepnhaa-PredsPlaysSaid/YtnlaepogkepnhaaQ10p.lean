/- The document's table of layer 10: Put. -/
import Derived.Test.YtnlaepogkepnhaaQ10d
namespace Go.Proofs.Ytnlaepogkepnhaa.Q
set_option linter.unusedVariables false
open Go.RowKit Fl

/-- Its number is raised, if it has that form. -/
def upd (k : RK) (n : Int) (x : ItV) : ItV := if x.k = k then ⟨x.k, max x.n n⟩ else x
def mapU (k : RK) (n : Int) (ms : List ItV) : List ItV := ms.map (upd k n)
def there (k : RK) (ms : List ItV) : Bool := ms.any fun x => decide (x.k = k)
theorem mapU_len (k : RK) (n : Int) (ms : List ItV) : (mapU k n ms).length = ms.length := by simp [mapU]
theorem mapU_snoc (k : RK) (n : Int) {ms : List ItV} {i : Nat} {x : ItV} (hx : ms[i]? = some x) : mapU k n (ms.take (i + 1)) = mapU k n (ms.take i) ++ [upd k n x] := by
  unfold mapU; rw [List.take_add_one, hx]; simp
theorem there_snoc (k : RK) {ms : List ItV} {i : Nat} {x : ItV} (hx : ms[i]? = some x) : there k (ms.take (i + 1)) = (there k (ms.take i) || decide (x.k = k)) := by
  unfold there; rw [List.take_add_one, hx]; simp
theorem mapU_not (k : RK) (n : Int) : ∀ {ms : List ItV}, there k ms = false → mapU k n ms = ms
  | [], _ => rfl
  | x :: ms, h => by
    simp only [there, List.any_cons, Bool.or_eq_false_iff, decide_eq_false_iff_not] at h
    show upd k n x :: mapU k n ms = _
    rw [mapU_not k n (ms := ms) h.2]
    unfold upd; rw [if_neg h.1]
def refPutI (ms : List ItV) (most : Int) (kb : Rg) (n : Int) : Int × List ItV :=
  if kb = none then (41, ms) else if n < 1 ∨ 1099511627776 < n then (43, ms)
  else if there (keyR kb) ms = true then (0, mapU (keyR kb) n ms) else if most ≤ (ms.length : Int) then (3, ms) else (0, ms ++ [⟨keyR kb, n⟩])
/-- The table that Put hands back: the same slice, or one of its own. -/
def RefPutPost (w : World) (most : Int) (a : Option Addr) (c : Nat) (ms : List ItV) (r : Int × List ItV) (e : Ending) (w' : World) : Prop :=
  Below w.heap.size w w' ∧ ∃ a' c', e = .returned (.tuple #[.agg #[.int .i64 most, .slice a' r.2.length c'], .int .i64 r.1]) ∧ ((a' = a ∧ c' = c ∧ r.2 = ms) ∨ w'.ownsRow w.heap.size 90 3 (.slice a' r.2.length c') r.2.length (mCells r.2))

set_option maxRecDepth 100000 in
theorem refPut_bad (most n cd : Int) (a : Option Addr) (c l : Nat) (lo hi : Nat) (b1 b2 : Bool) (kb : Rg) (w : World) (hl : lo < 2 ^ 64) (hh : hi < 2 ^ 64) (hkb : Hid (canonS lo hi b1 b2 = kb)) (ok : okR kb)
    (hc : (kb = none ∧ cd = 41) ∨ (kb ≠ none ∧ n < 1 ∧ cd = 43) ∨ (kb ≠ none ∧ 1 ≤ n ∧ 1099511627776 < n ∧ cd = 43)) :
    Calls Try.prog 41 #[.agg #[.int .i64 most, .slice a l c], .agg #[.float .f64 lo, .float .f64 hi, .bool b1, .bool b2], .int .i64 n] w (Ret (.tuple #[.agg #[.int .i64 most, .slice a l c], .int .i64 cd]) w) := by
  have HOf := fun W => refOfG lo hi b1 b2 kb W hl hh hkb
  have HEm := fun W => refEmptyG kb kb.isNone W (hid ok) (hid rfl)
  have hc' : (kb.isNone = true ∧ cd = 41) ∨ (kb.isNone = false ∧ n < 1 ∧ cd = 43) ∨ (kb.isNone = false ∧ 1 ≤ n ∧ 1099511627776 < n ∧ cd = 43) := by
    rcases kb with _ | ⟨l, h'⟩
    · rcases hc with h1 | h1 | h1
      · exact .inl ⟨rfl, h1.2⟩
      · exact absurd rfl h1.1
      · exact absurd rfl h1.1
    · rcases hc with h1 | h1 | h1
      · cases h1.1
      · exact .inr (.inl ⟨rfl, h1.2⟩)
      · exact .inr (.inr ⟨rfl, h1.2⟩)
  clear hc
  generalize kb.isNone = em at *
  generalize rlo kb = x0 at *
  generalize rhi kb = x1 at *
  rcases hc' with ⟨rfl, rfl⟩ | ⟨rfl, h2, rfl⟩ | ⟨rfl, h2, h3, rfl⟩
  · go_enter Try.func41, Try.ntmps41
    go_wp2_with (first | (go_at_call 61; (with_reducible refine (HOf _).mono ?_); rintro e w1 ⟨rfl, hb1⟩; obtain ⟨hc1, hf1⟩ := bcell hb1; (try simp only [World.heap_drewN, World.cell?_drewN, World.frozen?_drewN] at hc1 hf1); have hz1 := hb1.size; (try simp at hz1); (try have hy1_0 : w.heap.size < w1.heap.size := by omega); (try have hy1_1 : w.heap.size + 1 < w1.heap.size := by omega); (try have hy1_2 : w.heap.size + 2 < w1.heap.size := by omega); (try have hy1_3 : w.heap.size + 3 < w1.heap.size := by omega); (try have hx1_0 : w.heap.size ≤ w1.heap.size := by omega); (try have hx1_1 : w.heap.size + 1 ≤ w1.heap.size := by omega); (try have hx1_2 : w.heap.size + 2 ≤ w1.heap.size := by omega)) | (go_at_call 75; (with_reducible refine (HEm _).mono ?_); rintro e w2 ⟨rfl, hb2⟩; obtain ⟨hc2, hf2⟩ := bcell hb2; (try simp only [World.heap_drewN, World.cell?_drewN, World.frozen?_drewN] at hc2 hf2); have hz2 := hb2.size; (try simp at hz2); (try have hy2_0 : w.heap.size < w2.heap.size := by omega); (try have hy2_1 : w.heap.size + 1 < w2.heap.size := by omega); (try have hy2_2 : w.heap.size + 2 < w2.heap.size := by omega); (try have hy2_3 : w.heap.size + 3 < w2.heap.size := by omega); (try have hx2_0 : w.heap.size ≤ w2.heap.size := by omega); (try have hx2_1 : w.heap.size + 1 ≤ w2.heap.size := by omega); (try have hx2_2 : w.heap.size + 2 ≤ w2.heap.size := by omega)))
    exact bodyPost_ret (v := .tuple #[.agg #[.int .i64 most, .slice a l c], .int .i64 41]) (by simp [results, Try.results41, go_sem, *]) rfl ⟨rfl, by (repeat (first | with_reducible exact Below.refl _ _ | ((with_reducible refine Below.alloc1 ?_ ?_ _); (· first | omega | (simp; done) | (simp; omega))) | (with_reducible refine Below.drew ?_) | (with_reducible refine below_drewN' ?_ _) | ((with_reducible refine Below.setCell1 ?_ ?_ _); (· first | omega | (simp; done) | (simp; omega))) | ((with_reducible refine Below.after (by assumption) ?_ ?_); (· first | omega | (simp; done) | (simp; omega)))))⟩
  all_goals
    go_enter Try.func41, Try.ntmps41
    go_wp2_with (first | (go_at_call 61; (with_reducible refine (HOf _).mono ?_); rintro e w1 ⟨rfl, hb1⟩; obtain ⟨hc1, hf1⟩ := bcell hb1; (try simp only [World.heap_drewN, World.cell?_drewN, World.frozen?_drewN] at hc1 hf1); have hz1 := hb1.size; (try simp at hz1); (try have hy1_0 : w.heap.size < w1.heap.size := by omega); (try have hy1_1 : w.heap.size + 1 < w1.heap.size := by omega); (try have hy1_2 : w.heap.size + 2 < w1.heap.size := by omega); (try have hy1_3 : w.heap.size + 3 < w1.heap.size := by omega); (try have hx1_0 : w.heap.size ≤ w1.heap.size := by omega); (try have hx1_1 : w.heap.size + 1 ≤ w1.heap.size := by omega); (try have hx1_2 : w.heap.size + 2 ≤ w1.heap.size := by omega)) | (go_at_call 75; (with_reducible refine (HEm _).mono ?_); rintro e w2 ⟨rfl, hb2⟩; obtain ⟨hc2, hf2⟩ := bcell hb2; (try simp only [World.heap_drewN, World.cell?_drewN, World.frozen?_drewN] at hc2 hf2); have hz2 := hb2.size; (try simp at hz2); (try have hy2_0 : w.heap.size < w2.heap.size := by omega); (try have hy2_1 : w.heap.size + 1 < w2.heap.size := by omega); (try have hy2_2 : w.heap.size + 2 < w2.heap.size := by omega); (try have hy2_3 : w.heap.size + 3 < w2.heap.size := by omega); (try have hx2_0 : w.heap.size ≤ w2.heap.size := by omega); (try have hx2_1 : w.heap.size + 1 ≤ w2.heap.size := by omega); (try have hx2_2 : w.heap.size + 2 ≤ w2.heap.size := by omega)))
    exact bodyPost_ret (v := .tuple #[.agg #[.int .i64 most, .slice a l c], .int .i64 43]) (by simp [results, Try.results41, go_sem, *]) rfl ⟨rfl, by (repeat (first | with_reducible exact Below.refl _ _ | ((with_reducible refine Below.alloc1 ?_ ?_ _); (· first | omega | (simp; done) | (simp; omega))) | (with_reducible refine Below.drew ?_) | (with_reducible refine below_drewN' ?_ _) | ((with_reducible refine Below.setCell1 ?_ ?_ _); (· first | omega | (simp; done) | (simp; omega))) | ((with_reducible refine Below.after (by assumption) ?_ ?_); (· first | omega | (simp; done) | (simp; omega)))))⟩

set_option maxHeartbeats 1000000 in
set_option maxRecDepth 100000 in
theorem refPut_go (most n : Int) (a : Option Addr) (c : Nat) (lo hi : Nat) (b1 b2 : Bool) (K : RK) (ms : List ItV) (w : World) (hm : MAt w a ms) (hl : lo < 2 ^ 64) (hh : hi < 2 ^ 64) (hkb : Hid (canonS lo hi b1 b2 = K.rg)) (h1 : 1 ≤ n) (h2 : n ≤ 1099511627776) :
    Calls Try.prog 41 #[.agg #[.int .i64 most, .slice a ms.length c], .agg #[.float .f64 lo, .float .f64 hi, .bool b1, .bool b2], .int .i64 n] w
      (RefPutPost w most a c ms (if there K ms = true then (0, mapU K n ms) else if most ≤ (ms.length : Int) then (3, ms) else (0, ms ++ [⟨K, n⟩]))) := by
  have HOf : ∀ W, Calls Try.prog 61 #[.agg #[.float .f64 lo, .float .f64 hi, .bool b1, .bool b2]] W (Ret (.agg #[.int .u64 (kcode K.lo), .int .u64 (kcode K.hi)]) W) := fun W => refOfG lo hi b1 b2 K.rg W hl hh hkb
  have HEm := fun W => refEmpty_some K.lo K.hi (hid K.le) W
  obtain ⟨l, hl0⟩ : ∃ l, ms.length = l := ⟨_, rfl⟩
  have HM := hid hm
  have hlm := hm.len
  have HL : Hid (∀ i, i ≤ l → (mapU K n (ms.take i)).length = i) := hid fun i hi => by rw [mapU_len, List.length_take]; omega
  rw [hl0] at hlm ⊢
  have HN := hid hl0
  have HT : Hid (ms.take l = ms) := hid (by rw [← hl0]; exact List.take_length)
  clear hm hl0
  obtain ⟨W0, hW0⟩ : ∃ W0, W0 = ((w.alloc (.cells #[.int .i64 most, .slice a l c] 79)).alloc (.cells #[.float .f64 lo, .float .f64 hi, .bool b1, .bool b2] 25)).alloc (.cells #[.int .i64 0, .slice none 0 0] 79) := ⟨_, rfl⟩
  have hB0 : Below w.heap.size w W0 := by rw [hW0]; (repeat (first | with_reducible exact Below.refl _ _ | ((with_reducible refine Below.alloc1 ?_ ?_ _); (· first | omega | (simp; done) | (simp; omega))) | (with_reducible refine Below.drew ?_) | (with_reducible refine below_drewN' ?_ _) | ((with_reducible refine Below.setCell1 ?_ ?_ _); (· first | omega | (simp; done) | (simp; omega))) | ((with_reducible refine Below.after (by assumption) ?_ ?_); (· first | omega | (simp; done) | (simp; omega)))))
  have hz0 : W0.heap.size = w.heap.size + 3 := by rw [hW0]; simp
  have s0 : W0.cell? ⟨w.heap.size, 0, none⟩ = some (.int .i64 most) := by rw [hW0]; simp [go_sem]
  have s1 : W0.cell? ⟨w.heap.size, 1, none⟩ = some (.slice a l c) := by rw [hW0]; simp [go_sem]
  have s2 : W0.cell? ⟨w.heap.size + 1 + 1, 0, none⟩ = some (.int .i64 0) := by rw [hW0]; simp [go_sem]
  have s3 : W0.cell? ⟨w.heap.size + 1 + 1, 1, none⟩ = some (.slice none 0 0) := by rw [hW0]; simp [go_sem]
  have s4 : W0.frozen? ⟨w.heap.size, 1, none⟩ = false := by rw [hW0]; simp [go_sem]
  have s5 : W0.frozen? ⟨w.heap.size + 1 + 1, 0, none⟩ = false := by rw [hW0]; simp [go_sem]
  have s6 : W0.frozen? ⟨w.heap.size + 1 + 1, 1, none⟩ = false := by rw [hW0]; simp [go_sem]
  have p0 : W0.cell? ⟨w.heap.size + 1, 0, none⟩ = some (.float .f64 lo) := by rw [hW0]; simp [go_sem]
  have p1 : W0.cell? ⟨w.heap.size + 1, 1, none⟩ = some (.float .f64 hi) := by rw [hW0]; simp [go_sem]
  have p2 : W0.cell? ⟨w.heap.size + 1, 2, none⟩ = some (.bool b1) := by rw [hW0]; simp [go_sem]
  have p3 : W0.cell? ⟨w.heap.size + 1, 3, none⟩ = some (.bool b2) := by rw [hW0]; simp [go_sem]
  have hx0 : w.heap.size < W0.heap.size := by omega
  have hx1 : w.heap.size + 1 < W0.heap.size := by omega
  have hx2 : w.heap.size + 1 + 1 < W0.heap.size := by omega
  generalize hQ : RefPutPost w most a c ms (if there K ms = true then (0, mapU K n ms) else if most ≤ (l : Int) then (3, ms) else (0, ms ++ [⟨K, n⟩])) = Q
  have HQ := hid hQ
  have h1' : ¬ n < 1 := by omega
  have h2' : ¬ 1099511627776 < n := by omega
  clear hQ h1 h2
  go_enter Try.func41, Try.ntmps41
  go_wp2_with fail
  rw [← hW0]
  clear hW0
  with_reducible refine (HOf _).mono ?_
  rintro e w1 ⟨rfl, hb1⟩
  have hz1 := hb1.size
  have hbr : Below w1.heap.size w1 (w1.alloc (.cells #[.int .u64 (kcode K.lo), .int .u64 (kcode K.hi)] 88)) := by (repeat (first | with_reducible exact Below.refl _ _ | ((with_reducible refine Below.alloc1 ?_ ?_ _); (· first | omega | (simp; done) | (simp; omega))) | (with_reducible refine Below.drew ?_) | (with_reducible refine below_drewN' ?_ _) | ((with_reducible refine Below.setCell1 ?_ ?_ _); (· first | omega | (simp; done) | (simp; omega))) | ((with_reducible refine Below.after (by assumption) ?_ ?_); (· first | omega | (simp; done) | (simp; omega)))))
  have r0 : (w1.alloc (.cells #[.int .u64 (kcode K.lo), .int .u64 (kcode K.hi)] 88)).cell? ⟨w1.heap.size, 0, none⟩ = some (.int .u64 (kcode K.lo)) := by simp [go_sem]
  have r1 : (w1.alloc (.cells #[.int .u64 (kcode K.lo), .int .u64 (kcode K.hi)] 88)).cell? ⟨w1.heap.size, 1, none⟩ = some (.int .u64 (kcode K.hi)) := by simp [go_sem]
  go_wp2_with fail
  with_reducible refine (HEm _).mono ?_
  rintro e w2 ⟨rfl, hb2⟩
  have hz2 := hb2.size
  simp at hz2
  have r0 := (hb2.cell (p := ⟨w1.heap.size, 0, none⟩) (by simp)).trans r0
  have r1 := (hb2.cell (p := ⟨w1.heap.size, 1, none⟩) (by simp)).trans r1
  have hb02 : Below W0.heap.size W0 w2 := hb1.trans (Below.mono (B := w1.heap.size) (hbr.trans (hb2.mono (by simp))) hz1)
  have hB2 : Below w.heap.size w w2 := hB0.trans (hb02.mono (by omega))
  have hxr : w1.heap.size < w2.heap.size := by omega
  clear hb1 hbr hb2 HOf HEm
  have s0 := (hb02.cell (p := ⟨w.heap.size, _, none⟩) hx0).trans s0
  have s1 := (hb02.cell (p := ⟨w.heap.size, _, none⟩) hx0).trans s1
  have s2 := (hb02.cell (p := ⟨w.heap.size + 1 + 1, _, none⟩) hx2).trans s2
  have s3 := (hb02.cell (p := ⟨w.heap.size + 1 + 1, _, none⟩) hx2).trans s3
  have s4 := (hb02.frozen (p := ⟨w.heap.size, _, none⟩) hx0).trans s4
  have s5 := (hb02.frozen (p := ⟨w.heap.size + 1 + 1, _, none⟩) hx2).trans s5
  have s6 := (hb02.frozen (p := ⟨w.heap.size + 1 + 1, _, none⟩) hx2).trans s6
  have hy0 : w.heap.size < w2.heap.size := by omega
  have hy2 : w.heap.size + 1 + 1 < w2.heap.size := by omega
  clear p0 p1 p2 p3 hb02 hB0 hx0 hx1 hx2
  have hown0 : (w2.alloc (.cells #[] 90)).ownsRow w2.heap.size 90 3 (.slice (some ⟨w2.heap.size, 0, none⟩) 0 0) 0 [] :=
    ⟨rfl, .inr ⟨w2.heap.size, 0, #[], rfl, Nat.le_refl _, heap_alloc_new w2 _, Nat.le_refl _, by unfold maxLen; omega, rfl, rfl⟩⟩
  have h00 : Below w2.heap.size w2 (w2.alloc (.cells #[] 90)) := by (repeat (first | with_reducible exact Below.refl _ _ | ((with_reducible refine Below.alloc1 ?_ ?_ _); (· first | omega | (simp; done) | (simp; omega))) | (with_reducible refine Below.drew ?_) | (with_reducible refine below_drewN' ?_ _) | ((with_reducible refine Below.setCell1 ?_ ?_ _); (· first | omega | (simp; done) | (simp; omega))) | ((with_reducible refine Below.after (by assumption) ?_ ?_); (· first | omega | (simp; done) | (simp; omega)))))
  have H0 := hid hown0
  clear hown0
  go_wp2_with fail
  go_loopw [11, 9, 10] (fun iv uv tv wr => ∃ (i : Nat) (u : Option Addr) (cu : Nat), i ≤ l ∧ iv = .int .i64 i ∧ uv = .slice u (mapU K n (ms.take i)).length cu ∧ tv = .bool (there K (ms.take i)) ∧ Hid (wr.ownsRow w2.heap.size 90 3 (.slice u (mapU K n (ms.take i)).length cu) (mapU K n (ms.take i)).length (mCells (mapU K n (ms.take i)))) ∧ Below w2.heap.size w2 wr) (fun iv _ _ _ => l - (intOf iv).toNat)
  case atStart => exact ⟨0, some ⟨w2.heap.size, 0, none⟩, 0, Nat.zero_le _, rfl, rfl, rfl, H0, h00⟩
  case round =>
    obtain ⟨i, u, cu, hin, rfl, rfl, rfl, HO, hb⟩ := hrel
    have hz := hb.size
    have e0 := (hb.cell (p := ⟨w.heap.size, _, none⟩) hy0).trans s0
    have e1 := (hb.cell (p := ⟨w.heap.size, _, none⟩) hy0).trans s1
    have e2 := (hb.cell (p := ⟨w.heap.size + 1 + 1, _, none⟩) hy2).trans s2
    have e3 := (hb.cell (p := ⟨w.heap.size + 1 + 1, _, none⟩) hy2).trans s3
    have e4 := (hb.frozen (p := ⟨w.heap.size, _, none⟩) hy0).trans s4
    have e5 := (hb.frozen (p := ⟨w.heap.size + 1 + 1, _, none⟩) hy2).trans s5
    have e6 := (hb.frozen (p := ⟨w.heap.size + 1 + 1, _, none⟩) hy2).trans s6
    have q0 := (hb.cell (p := ⟨w1.heap.size, _, none⟩) hxr).trans r0
    have q1 := (hb.cell (p := ⟨w1.heap.size, _, none⟩) hxr).trans r1
    have hyw0 : w.heap.size < wr.heap.size := by omega
    have hyw2 : w.heap.size + 1 + 1 < wr.heap.size := by omega
    have hyr : w1.heap.size < wr.heap.size := by omega
    have hkl := HL.out i hin
    by_cases hlt : i < l
    · have hlt' : (i : Int) < (l : Int) := by omega
      have hil : i < ms.length := by rw [HN.out]; exact hlt
      obtain ⟨g, rfl, hg, hcs⟩ := HM.out.row (by omega)
      obtain ⟨d0, d1, d2⟩ := hcs i hil
      have hg0 : g < w2.heap.size := by have := hB2.size; omega
      have d0 := (hb.cell (p := ⟨g, _, none⟩) hg0).trans ((hB2.cell (p := ⟨g, _, none⟩) hg).trans d0)
      have d1 := (hb.cell (p := ⟨g, _, none⟩) hg0).trans ((hB2.cell (p := ⟨g, _, none⟩) hg).trans d1)
      have d2 := (hb.cell (p := ⟨g, _, none⟩) hg0).trans ((hB2.cell (p := ⟨g, _, none⟩) hg).trans d2)
      have hgw : g < wr.heap.size := by omega
      have hx := it_some hil
      have hsn := mapU_snoc K n hx
      have htn := there_snoc K hx
      generalize ms[i]?.getD default = x at *
      clear hcs hil hx
      have app := fun (y : ItV) o (hbo : Below wr.heap.size wr (wr.alloc o)) => app1 y (hb.trans (hbo.mono hz)) (HO.out.kept (grown_of_below hbo) (by cases (Value.slice u (mapU K n (ms.take i)).length cu).ownBlock <;> simp)) (by simp; omega) (by omega)
      by_cases hq : x.k = K
      · have hup : upd K n x = ⟨x.k, max x.n n⟩ := by unfold upd; rw [if_pos hq]
        rw [show decide (x.k = K) = true by simp [hq], Bool.or_true] at htn
        rw [hup] at hsn
        have T1 : (kcode x.k.lo == kcode K.lo) = true := by rw [hq]; simp
        have T2 : (kcode x.k.hi == kcode K.hi) = true := by rw [hq]; simp
        have HK := hid hsn
        have HTN := hid htn
        clear hsn htn hup hq
        by_cases hgt : x.n < n
        · obtain ⟨a', c', w', hr, ho', hb'⟩ := app ⟨x.k, n⟩ (.cells #[.int .u64 (kcode x.k.lo), .int .u64 (kcode x.k.hi), .int .i64 n] 90) (by (repeat (first | with_reducible exact Below.refl _ _ | ((with_reducible refine Below.alloc1 ?_ ?_ _); (· first | omega | (simp; done) | (simp; omega))) | (with_reducible refine Below.drew ?_) | (with_reducible refine below_drewN' ?_ _) | ((with_reducible refine Below.setCell1 ?_ ?_ _); (· first | omega | (simp; done) | (simp; omega))) | ((with_reducible refine Below.after (by assumption) ?_ ?_); (· first | omega | (simp; done) | (simp; omega))))))
          have hmx : max x.n n = n := by omega
          rw [hmx] at HK
          have HO' := hid ho'
          rw [show ∀ o, (wr.alloc o).heap.size = wr.heap.size + 1 from fun o => by simp] at hr
          clear ho' app
          go_wp2_with (at_builtin; refine Lib.wpList_append_run _ rfl _ _ _ _ rfl _ _ rfl rfl _ _ (hr _) ?_)
          go_roundw
          case rel => exact ⟨i + 1, a', c', by omega, by go_num, by rw [HK.out, List.length_append, HL.out _ hin]; rfl, by rw [HTN.out], hid (by rw [HK.out, List.length_append]; exact HO'.out), hb'⟩
          case measure => simp [intOf]; omega
        · obtain ⟨a', c', w', hr, ho', hb'⟩ := app ⟨x.k, x.n⟩ (.cells #[.int .u64 (kcode x.k.lo), .int .u64 (kcode x.k.hi), .int .i64 x.n] 90) (by (repeat (first | with_reducible exact Below.refl _ _ | ((with_reducible refine Below.alloc1 ?_ ?_ _); (· first | omega | (simp; done) | (simp; omega))) | (with_reducible refine Below.drew ?_) | (with_reducible refine below_drewN' ?_ _) | ((with_reducible refine Below.setCell1 ?_ ?_ _); (· first | omega | (simp; done) | (simp; omega))) | ((with_reducible refine Below.after (by assumption) ?_ ?_); (· first | omega | (simp; done) | (simp; omega))))))
          have hmx : max x.n n = x.n := by omega
          rw [hmx] at HK
          have HO' := hid ho'
          rw [show ∀ o, (wr.alloc o).heap.size = wr.heap.size + 1 from fun o => by simp] at hr
          clear ho' app
          go_wp2_with (at_builtin; refine Lib.wpList_append_run _ rfl _ _ _ _ rfl _ _ rfl rfl _ _ (hr _) ?_)
          go_roundw
          case rel => exact ⟨i + 1, a', c', by omega, by go_num, by rw [HK.out, List.length_append, HL.out _ hin]; rfl, by rw [HTN.out], hid (by rw [HK.out, List.length_append]; exact HO'.out), hb'⟩
          case measure => simp [intOf]; omega
      · have hup : upd K n x = x := by unfold upd; rw [if_neg hq]
        rw [show decide (x.k = K) = false by simp [hq], Bool.or_false] at htn
        rw [hup] at hsn
        have T12 : (kcode x.k.lo == kcode K.lo && kcode x.k.hi == kcode K.hi) = false := by
          rw [Bool.and_eq_false_iff]
          by_cases e : x.k.lo = K.lo
          · right
            rw [beq_eq_false_iff_ne, Ne, kcode_eq]
            intro e2
            exact hq (RK.ext' e (Key.ext' e2))
          · left
            rw [beq_eq_false_iff_ne, Ne, kcode_eq]
            intro e2
            exact e (Key.ext' e2)
        have HK := hid hsn
        have HTN := hid htn
        clear hsn htn hup hq
        obtain ⟨a', c', w', hr, ho', hb'⟩ := app x (.cells #[.int .u64 (kcode x.k.lo), .int .u64 (kcode x.k.hi), .int .i64 x.n] 90) (by (repeat (first | with_reducible exact Below.refl _ _ | ((with_reducible refine Below.alloc1 ?_ ?_ _); (· first | omega | (simp; done) | (simp; omega))) | (with_reducible refine Below.drew ?_) | (with_reducible refine below_drewN' ?_ _) | ((with_reducible refine Below.setCell1 ?_ ?_ _); (· first | omega | (simp; done) | (simp; omega))) | ((with_reducible refine Below.after (by assumption) ?_ ?_); (· first | omega | (simp; done) | (simp; omega))))))
        have HO' := hid ho'
        rw [show ∀ o, (wr.alloc o).heap.size = wr.heap.size + 1 from fun o => by simp] at hr
        clear ho' app
        cases T1 : (kcode x.k.lo == kcode K.lo)
        all_goals
          rw [T1] at T12
          simp only [Bool.true_and, Bool.false_and] at T12
          go_wp2_with (at_builtin; refine Lib.wpList_append_run _ rfl _ _ _ _ rfl _ _ rfl rfl _ _ (hr _) ?_)
          go_roundw
          case rel => exact ⟨i + 1, a', c', by omega, by go_num, by rw [HK.out, List.length_append, HL.out _ hin]; rfl, by rw [HTN.out], hid (by rw [HK.out, List.length_append]; exact HO'.out), hb'⟩
          case measure => simp [intOf]; omega
    · obtain rfl : i = l := by omega
      rw [HT.out] at HO hkl ⊢
      have hlen := hkl
      have hbw : Below w.heap.size w wr := hB2.trans (hb.mono (by omega))
      cases ht : there K ms
      · have hsame := mapU_not K n ht
        rw [hlen]
        rw [hsame] at HO hkl
        clear hlen
        by_cases hfull : most ≤ (i : Int)
        · have hfin : ∀ W, Below w.heap.size w W → Q (.returned (.tuple #[.agg #[.int .i64 most, .slice a i c], .int .i64 3])) W := fun W h1 => by
            rw [← HQ.out, ht, if_neg (by simp), if_pos hfull]
            exact ⟨h1, a, c, by rw [← HN.out], .inl ⟨rfl, rfl, rfl⟩⟩
          have HFn := hid hfin
          clear hfin hsame ht hkl
          go_wp2_with fail
          exact bodyPost_ret (v := .tuple #[.agg #[.int .i64 most, .slice a i c], .int .i64 3]) (by simp [results, Try.results41, go_sem, *]) rfl (HFn.out _ (by (repeat (first | with_reducible exact Below.refl _ _ | ((with_reducible refine Below.alloc1 ?_ ?_ _); (· first | omega | (simp; done) | (simp; omega))) | (with_reducible refine Below.drew ?_) | (with_reducible refine below_drewN' ?_ _) | ((with_reducible refine Below.setCell1 ?_ ?_ _); (· first | omega | (simp; done) | (simp; omega))) | ((with_reducible refine Below.after (by assumption) ?_ ?_); (· first | omega | (simp; done) | (simp; omega)))))))
        · have hfull' : decide (most ≤ (i : Int)) = false := by simpa using hfull
          obtain ⟨a', c', w', hr, ho', hb'⟩ := app1 (⟨K, n⟩ : ItV) hb HO.out hb.size (by omega)
          have hlen : (ms ++ [(⟨K, n⟩ : ItV)]).length = i + 1 := by simp [HN.out]
          rw [hkl] at hr ho'
          have hfin : ∀ W, Below w.heap.size w W → W.ownsRow w2.heap.size 90 3 (.slice a' (i + 1) c') (i + 1) (mCells (ms ++ [⟨K, n⟩])) → Q (.returned (.tuple #[.agg #[.int .i64 most, .slice a' (i + 1) c'], .int .i64 0])) W := fun W h1 h2 => by
            rw [← HQ.out, ht, if_neg (by simp), if_neg hfull]
            exact ⟨h1, a', c', by rw [hlen], .inr (by rw [hlen]; exact own_le h2 (by have := hB2.size; omega))⟩
          have HFn := hid hfin
          have hz' := hb'.size
          have k0 := (hb'.cell (p := ⟨w.heap.size, _, none⟩) hy0).trans s0
          have k1 := (hb'.cell (p := ⟨w.heap.size, _, none⟩) hy0).trans s1
          have k2 := (hb'.cell (p := ⟨w.heap.size + 1 + 1, _, none⟩) hy2).trans s2
          have k3 := (hb'.cell (p := ⟨w.heap.size + 1 + 1, _, none⟩) hy2).trans s3
          have k4 := (hb'.frozen (p := ⟨w.heap.size, _, none⟩) hy0).trans s4
          have k5 := (hb'.frozen (p := ⟨w.heap.size + 1 + 1, _, none⟩) hy2).trans s5
          have k6 := (hb'.frozen (p := ⟨w.heap.size + 1 + 1, _, none⟩) hy2).trans s6
          have hbw' : Below w.heap.size w w' := hB2.trans (hb'.mono (by omega))
          have hlo := ho'.lt
          have hown3 : ∀ v1 v2 v3, (((w'.setCell ⟨w.heap.size, 1, none⟩ v1).setCell ⟨w.heap.size + 1 + 1, 0, none⟩ v2).setCell ⟨w.heap.size + 1 + 1, 1, none⟩ v3).ownsRow w2.heap.size 90 3 (.slice a' (i + 1) c') (i + 1) (mCells (ms ++ [⟨K, n⟩])) := fun v1 v2 v3 =>
            ownsRow_setCell_other (ownsRow_setCell_other (ownsRow_setCell_other ho' (fun e => by have := (hlo _ e).1; simp at this; omega) _) (fun e => by have := (hlo _ e).1; simp at this; omega) _) (fun e => by have := (hlo _ e).1; simp at this; omega) _
          have HO3 := hid hown3
          have hyv0 : w.heap.size < w'.heap.size := by omega
          have hyv2 : w.heap.size + 1 + 1 < w'.heap.size := by omega
          clear hown3 hlo ho' hfin hlen hsame ht hkl hfull
          simp only at hr
          go_wp2_with (at_builtin; refine Lib.wpList_append_run _ rfl _ _ _ _ rfl _ _ rfl rfl _ _ (hr _) ?_)
          exact bodyPost_ret (v := .tuple #[.agg #[.int .i64 most, .slice a' (i + 1) c'], .int .i64 0]) (by simp [results, Try.results41, go_sem, *]) rfl (HFn.out _ (by (repeat (first | with_reducible exact Below.refl _ _ | ((with_reducible refine Below.alloc1 ?_ ?_ _); (· first | omega | (simp; done) | (simp; omega))) | (with_reducible refine Below.drew ?_) | (with_reducible refine below_drewN' ?_ _) | ((with_reducible refine Below.setCell1 ?_ ?_ _); (· first | omega | (simp; done) | (simp; omega))) | ((with_reducible refine Below.after (by assumption) ?_ ?_); (· first | omega | (simp; done) | (simp; omega)))))) (HO3.out _ _ _))
      · rw [hkl] at HO ⊢
        have hfin : ∀ W, Below w.heap.size w W → W.ownsRow w2.heap.size 90 3 (.slice u i cu) i (mCells (mapU K n ms)) → Q (.returned (.tuple #[.agg #[.int .i64 most, .slice u i cu], .int .i64 0])) W := fun W h1 h2 => by
          rw [← HQ.out, ht, if_pos rfl]
          exact ⟨h1, u, cu, by rw [hlen], .inr (by rw [hlen]; exact own_le h2 (by have := hB2.size; omega))⟩
        have HFn := hid hfin
        have hlo := HO.out.lt
        have hown3 : ∀ v1 v2 v3, (((wr.setCell ⟨w.heap.size, 1, none⟩ v1).setCell ⟨w.heap.size + 1 + 1, 0, none⟩ v2).setCell ⟨w.heap.size + 1 + 1, 1, none⟩ v3).ownsRow w2.heap.size 90 3 (.slice u i cu) i (mCells (mapU K n ms)) := fun v1 v2 v3 =>
          ownsRow_setCell_other (ownsRow_setCell_other (ownsRow_setCell_other HO.out (fun e => by have := (hlo _ e).1; simp at this; omega) _) (fun e => by have := (hlo _ e).1; simp at this; omega) _) (fun e => by have := (hlo _ e).1; simp at this; omega) _
        have HO3 := hid hown3
        clear hown3 hlo hfin hlen ht hkl
        go_wp2_with fail
        exact bodyPost_ret (v := .tuple #[.agg #[.int .i64 most, .slice u i cu], .int .i64 0]) (by simp [results, Try.results41, go_sem, *]) rfl (HFn.out _ (by (repeat (first | with_reducible exact Below.refl _ _ | ((with_reducible refine Below.alloc1 ?_ ?_ _); (· first | omega | (simp; done) | (simp; omega))) | (with_reducible refine Below.drew ?_) | (with_reducible refine below_drewN' ?_ _) | ((with_reducible refine Below.setCell1 ?_ ?_ _); (· first | omega | (simp; done) | (simp; omega))) | ((with_reducible refine Below.after (by assumption) ?_ ?_); (· first | omega | (simp; done) | (simp; omega)))))) (HO3.out _ _ _))

theorem refPut_any (most n : Int) (a : Option Addr) (c : Nat) (lo hi : Nat) (b1 b2 : Bool) (ms : List ItV) (w : World) (hm : MAt w a ms) (hl : lo < 2 ^ 64) (hh : hi < 2 ^ 64) :
    Calls Try.prog 41 #[.agg #[.int .i64 most, .slice a ms.length c], .agg #[.float .f64 lo, .float .f64 hi, .bool b1, .bool b2], .int .i64 n] w (RefPutPost w most a c ms (refPutI ms most (canonS lo hi b1 b2) n)) := by
  have ok := okR_canon lo hi b1 b2
  obtain ⟨kb, hkb⟩ : ∃ kb, canonS lo hi b1 b2 = kb := ⟨_, rfl⟩
  rw [hkb] at ok ⊢
  have hkb := hid hkb
  have bad : ∀ cd, (kb = none ∧ cd = 41) ∨ (kb ≠ none ∧ n < 1 ∧ cd = 43) ∨ (kb ≠ none ∧ 1 ≤ n ∧ 1099511627776 < n ∧ cd = 43) → Calls Try.prog 41 #[.agg #[.int .i64 most, .slice a ms.length c], .agg #[.float .f64 lo, .float .f64 hi, .bool b1, .bool b2], .int .i64 n] w (RefPutPost w most a c ms (cd, ms)) := fun cd h => by
    refine (refPut_bad most n cd a c ms.length lo hi b1 b2 kb w hl hh hkb ok h).mono ?_
    rintro e w' ⟨rfl, hb⟩
    exact ⟨hb, a, c, rfl, .inl ⟨rfl, rfl, rfl⟩⟩
  unfold refPutI
  by_cases h1 : kb = none
  · rw [if_pos h1]; exact bad 41 (.inl ⟨h1, rfl⟩)
  · rw [if_neg h1]
    by_cases h2 : n < 1 ∨ 1099511627776 < n
    · rw [if_pos h2]
      by_cases h3 : n < 1
      · exact bad 43 (.inr (.inl ⟨h1, h3, rfl⟩))
      · exact bad 43 (.inr (.inr ⟨h1, by omega, by omega, rfl⟩))
    · rw [if_neg h2]
      exact refPut_go most n a c lo hi b1 b2 (keyR kb) ms w hm hl hh (hid (by rw [keyR_rg ok h1]; exact hkb.out)) (by omega) (by omega)
end Go.Proofs.Ytnlaepogkepnhaa.Q
