/- Rows of raw spans of one's own: a copy by append; one stored anew. -/
import Derived.Test.YtibimhjbhincnaaNT
namespace Go.Proofs.Ytibimhjbhincnaa.N
set_option linter.unusedVariables false
open Go.RowKit Fl

def encV (s : SpanV) : List Value := [.float .f64 s.lo, .float .f64 s.hi, .bool s.a, .bool s.b]
theorem encV_len (s : SpanV) : (encV s).length = 4 := rfl
theorem encV_one (s : SpanV) : ∀ u ∈ encV s, u.oneCell' = true := by intro u hu; simp [encV] at hu; rcases hu with rfl | rfl | rfl | rfl <;> rfl
def vCells (l : List SpanV) : List Value := l.flatMap encV
theorem vCells_len (l : List SpanV) : (vCells l).length = l.length * 4 := flat_len encV_len l
/-- Cell by cell, what a row of raw spans holds. -/
theorem sat_cells {w : World} {a : Option Addr} {ss : List SpanV} (h : SAt w a ss) (h0 : 0 < ss.length) : ∃ b o, a = some ⟨b, o, none⟩ ∧ b < w.heap.size ∧ ∀ j u, (vCells ss)[j]? = some u → w.cell? ((⟨b, o, none⟩ : Addr).add j) = some u := by
  rcases h.row with h1 | ⟨b, o, rfl, hb, hc⟩
  · rw [h1] at h0; simp at h0
  · refine ⟨b, o, rfl, hb, fun j u hu => ?_⟩
    have hj : j < ss.length * 4 := by rw [← vCells_len]; exact (List.getElem?_eq_some_iff.1 hu).1
    have hi : j / 4 < ss.length := by omega
    have hx := sp_some hi
    obtain ⟨c0, c1, c2, c3⟩ := hc (j / 4) hi
    have hg := flat_get encV_len hx (j := j % 4) (by omega)
    have hj2 : j / 4 * 4 + j % 4 = j := by omega
    rw [hj2] at hg
    have hu2 : (encV (ss[j / 4]?.getD default))[j % 4]? = some u := hg.symm.trans hu
    rw [Addr.add_lit]
    have hm : j % 4 = 0 ∨ j % 4 = 1 ∨ j % 4 = 2 ∨ j % 4 = 3 := by omega
    rcases hm with e | e | e | e <;> rw [e] at hu2 <;> simp only [encV, List.getElem?_cons_zero, List.getElem?_cons_succ, Option.some.injEq] at hu2 <;> subst hu2
    · rw [← c0]; congr 2; omega
    · rw [← c1]; congr 2; omega
    · rw [← c2]; congr 2; omega
    · rw [← c3]; congr 2; omega
/-- An own row of raw spans is a row of spans. -/
theorem own_satV {w : World} {base n : Nat} {a : Option Addr} {c : Nat} {l : List SpanV} (hn : l.length = n) (h : w.ownsRow base 24 4 (.slice a n c) n (vCells l)) (hl : n ≤ 5864062014634) (hlt : ∀ i, i < l.length → (l[i]?.getD default).lo < 2 ^ 64 ∧ (l[i]?.getD default).hi < 2 ^ 64) : SAt w a l := by
  refine ⟨?_, hlt, by unfold maxLen; omega⟩
  rcases h.2 with ⟨h1, h2⟩ | ⟨g, cap, cur, h1, _⟩
  · exact .inl (List.eq_nil_of_length_eq_zero (by omega))
  · cases h1
    have hcl := h.cells (g := g) rfl
    refine .inr ⟨g, 0, rfl, (h.lt g rfl).2, fun i hi => ?_⟩
    have hx : l[i]? = some (l[i]?.getD default) := by rw [List.getElem?_eq_getElem hi]; rfl
    rw [Nat.zero_add]
    have at' : ∀ t v, t < 4 → (encV (l[i]?.getD default))[t]? = some v → w.cell? ⟨g, i * 4 + t, none⟩ = some v := fun t v ht hv => by rw [← addr0]; exact hcl _ v ((flat_get encV_len hx ht).trans hv)
    exact ⟨at' 0 _ (by omega) rfl, at' 1 _ (by omega) rfl, at' 2 _ (by omega) rfl, at' 3 _ (by omega) rfl⟩

/-- append([]Span{}, ss...). -/
theorem copy_all (w : World) (a : Option Addr) (c n : Nat) (ss : List SpanV) (hn : ss.length = n) (h : SAt w a ss) (hl : n ≤ 5864062014634) :
    ∃ a' c' w', (∀ ty, (Builtin.append_ #[44, 44] ty #[.slice (some ⟨w.heap.size, 0, none⟩) 0 0, .slice a n c]).run Try.prog (w.alloc (.cells #[] 24)) = .ok (.slice a' n c') w') ∧
      w'.ownsRow w.heap.size 24 4 (.slice a' n c') n (vCells ss) ∧ Below w.heap.size w w' := by
  obtain ⟨i0, hi0, hz0, hzs, hzb⟩ := info_parts spanInfo
  have hb1 : Below w.heap.size w (w.alloc (.cells #[] 24)) := by (repeat (first | with_reducible exact Below.refl _ _ | ((with_reducible refine Below.alloc1 ?_ ?_ _); (· first | omega | (simp; done) | (simp; omega))) | (with_reducible refine Below.drew ?_) | (with_reducible refine below_drewN' ?_ _) | ((with_reducible refine Below.setCell1 ?_ ?_ _); (· first | omega | (simp; done) | (simp; omega))) | ((with_reducible refine Below.after (by assumption) ?_ ?_); (· first | omega | (simp; done) | (simp; omega)))))
  have hown0 : (w.alloc (.cells #[] 24)).ownsRow w.heap.size 24 4 (.slice (some ⟨w.heap.size, 0, none⟩) 0 0) 0 [] :=
    ⟨rfl, .inr ⟨w.heap.size, 0, #[], rfl, Nat.le_refl _, heap_alloc_new w _, Nat.le_refl _, by unfold maxLen; omega, rfl, rfl⟩⟩
  by_cases h0 : n = 0
  · subst h0
    have hs : ss = [] := List.eq_nil_of_length_eq_zero hn
    subst hs
    refine ⟨some ⟨w.heap.size, 0, none⟩, 0, _, fun ty => ?_, hown0, hb1⟩
    cases a with
    | none => simp [Builtin.append_, run_underlying Try.underlying44, Builtin.lenOf, Builtin.firstCells, sizeOf, typeInfo, hi0, go_sem]
    | some a => simp [Builtin.append_, run_underlying Try.underlying44, Builtin.lenOf, Builtin.firstCells, sizeOf, typeInfo, hi0, go_sem]
  · obtain ⟨b, o, rfl, hb, hcl⟩ := sat_cells (h.below hb1) (by omega)
    obtain ⟨v', w', hr, h2, h3⟩ := run_append_own2 (P := Try.prog) (w.alloc (.cells #[] 24)) w.heap.size 44 24 i0 _ 4 24 Try.underlying44 hi0 hz0 hzs hzb rfl (by omega) _ _ _ hown0 ⟨b, o, none⟩ n c (vCells ss) (by rw [vCells_len, hn]) hcl
      (fun u hu => by obtain ⟨s, _, hs⟩ := List.mem_flatMap.1 hu; exact encV_one s u hs) (by omega) (by unfold maxLen; omega) (by omega) (by simp)
    rw [Nat.zero_add, List.nil_append] at h2
    have hv : ∃ va vc, v' = .slice va n vc := by
      rcases h2.2 with ⟨rfl, h4⟩ | ⟨g, cap, cur, rfl, _⟩
      · omega
      · exact ⟨_, _, rfl⟩
    obtain ⟨a', c', rfl⟩ := hv
    exact ⟨a', c', w', hr, h2, hb1.grown h3.1 (by simp) (fun k hk => (hown0.lt k hk).1)⟩

/-- One is stored anew; the row stays one's own. -/
theorem own_any4 {w : World} {base g cv m i : Nat} {xs : List Value} (v0 v1 v2 v3 : Value) (hi : i < m) (h : w.ownsRow base 24 4 (.slice (some ⟨g, 0, none⟩) m cv) m xs) :
    ∃ xs', ((((w.setCell ⟨g, i * 4, none⟩ v0).setCell ⟨g, i * 4 + 1, none⟩ v1).setCell ⟨g, i * 4 + 2, none⟩ v2).setCell ⟨g, i * 4 + 3, none⟩ v3).ownsRow base 24 4 (.slice (some ⟨g, 0, none⟩) m cv) m xs' ∧
    w.grownBy ((((w.setCell ⟨g, i * 4, none⟩ v0).setCell ⟨g, i * 4 + 1, none⟩ v1).setCell ⟨g, i * 4 + 2, none⟩ v2).setCell ⟨g, i * 4 + 3, none⟩ v3) (some g) := by
  rcases h.2 with ⟨h1, _⟩ | ⟨g', cap, cur, h1, hbase, hb, hnc, hcm, hcs, htake⟩
  · cases h1
  · cases h1
    rw [setCell_eq_setRow w g (i * 4) _ _ _ _ hb]
    have hb1 := setRow_heap w g cur (cur.setIfInBounds (i * 4) v0) 24 (0, 0) hb
    rw [setCell_eq_setRow _ g (i * 4 + 1) _ _ _ _ hb1]
    have hb2 := setRow_heap _ g _ ((cur.setIfInBounds (i * 4) v0).setIfInBounds (i * 4 + 1) v1) 24 (0, 0) hb1
    rw [setCell_eq_setRow _ g (i * 4 + 2) _ _ _ _ hb2]
    have hb3 := setRow_heap _ g _ (((cur.setIfInBounds (i * 4) v0).setIfInBounds (i * 4 + 1) v1).setIfInBounds (i * 4 + 2) v2) 24 (0, 0) hb2
    rw [setCell_eq_setRow _ g (i * 4 + 3) _ _ _ _ hb3]
    have hb4 := setRow_heap _ g _ ((((cur.setIfInBounds (i * 4) v0).setIfInBounds (i * 4 + 1) v1).setIfInBounds (i * 4 + 2) v2).setIfInBounds (i * 4 + 3) v3) 24 (0, 0) hb3
    refine ⟨_, ⟨?_, .inr ⟨g, cv, _, rfl, hbase, hb4, hnc, hcm, by simpa using hcs, rfl⟩⟩, ((grownBy_setRow w g _).trans (grownBy_setRow _ g _)).trans ((grownBy_setRow _ g _).trans (grownBy_setRow _ g _))⟩
    have : m * 4 ≤ cur.size := by rw [hcs]; exact Nat.mul_le_mul_right _ hnc
    simp; omega
/-- .. whose cells are there, and not frozen. -/
theorem own_there {w : World} {base g cv m i : Nat} {xs : List Value} (hi : i < m) (h : w.ownsRow base 24 4 (.slice (some ⟨g, 0, none⟩) m cv) m xs) :
    (∀ t, t < 4 → ∃ v, w.cell? ⟨g, i * 4 + t, none⟩ = some v) ∧ ∀ o, w.frozen? ⟨g, o, none⟩ = false := by
  rcases h.2 with ⟨h1, _⟩ | ⟨g', cap, cur, h1, hbase, hb, hnc, hcm, hcs, htake⟩
  · cases h1
  · cases h1
    refine ⟨fun t ht => ?_, fun o => by simp [World.frozen?, hb]⟩
    have : m * 4 ≤ cur.size := by rw [hcs]; exact Nat.mul_le_mul_right _ hnc
    refine ⟨cur[i * 4 + t]'(by omega), ?_⟩
    rw [cell_row hb, Array.getElem?_eq_getElem]
end Go.Proofs.Ytibimhjbhincnaa.N
