/- The table of layer 9: Put at a new key; Put whole. -/
import Derived.Test.YtnlaepogkepnhaaVU
namespace Go.Proofs.Ytnlaepogkepnhaa
set_option linter.unusedVariables false
set_option linter.unusedSimpArgs false
open Go.RowKit Fl

set_option maxRecDepth 100000 in
theorem tabPut_ins {w : World} {B T : Nat} {v : Value} {most : Int} {its : List ItV} (h : TabAt w B T v most its) (hB : B ≤ w.heap.size) (hr : rises its) (kb : Nat) (hk : kb < 2 ^ 64) (n : Int) (h1 : isNaN kb = false) (h2 : 1 ≤ n) (h3 : n ≤ 1099511627776) (hq : plcB its kb = false)
    (hm : (its.length : Int) ≠ most) (hl : its.length < 64) :
    Calls Try.prog 15 #[.pointer (some ⟨T, 0, none⟩), .float .f64 kb, .int .i64 n] w (PutRet w B T v most (0, its.take (plcI its kb) ++ [⟨kof kb, n⟩] ++ its.drop (plcI its kb))) := by
  have H := place_any h hr kb hk
  rw [hq] at H
  have hple := plcI_le its kb
  have hcb := cbits_num h1
  generalize plcI its kb = p at *
  have hm' : ((its.length : Int) == most) = false := by simp; exact hm
  have h2' : ¬ n < 1 := by omega
  have h3' : ¬ 1099511627776 < n := by omega
  clear h2 h3 hm hq
  go_enter Try.func15, Try.ntmps15
  go_wp2_with fail
  ((with_reducible refine (H).mono ?_); rintro e w1 ⟨rfl, hb1⟩; obtain ⟨hc1, hf1⟩ := bcell hb1; (try simp only [World.heap_drewN, World.cell?_drewN, World.frozen?_drewN] at hc1 hf1); have hz1 := hb1.size; (try simp at hz1); (try have hy1_0 : w.heap.size < w1.heap.size := by omega); (try have hy1_1 : w.heap.size + 1 < w1.heap.size := by omega); (try have hy1_2 : w.heap.size + 2 < w1.heap.size := by omega); (try have hy1_3 : w.heap.size + 3 < w1.heap.size := by omega); (try have hx1_0 : w.heap.size ≤ w1.heap.size := by omega); (try have hx1_1 : w.heap.size + 1 ≤ w1.heap.size := by omega); (try have hx1_2 : w.heap.size + 2 ≤ w1.heap.size := by omega))
  have h1' := h.below hb1
  have hub := Upd.of_below hb1 T v
  have hB1 : B ≤ w1.heap.size := Nat.le_trans hB hb1.size
  clear hc1 hf1 H h
  have c0 := cell_row h1'.tab 0
  have c1 := cell_row h1'.tab 1
  simp at c0 c1
  have hT1 := h1'.lt
  have hown := h1'.own
  obtain ⟨va, vn, vc, hv, hvl⟩ : ∃ va vn vc, v = .slice va vn vc ∧ vn = its.length := by
    rcases hown.2 with ⟨rfl, h0⟩ | ⟨g, cap, cur, rfl, _⟩
    · have := itCells_len its
      rw [h0] at this; simp at this
      exact ⟨none, 0, 0, rfl, by omega⟩
    · exact ⟨_, _, _, rfl, rfl⟩
  subst hv
  subst hvl
  have hvT : (Value.slice va its.length vc).ownBlock ≠ some T := h1'.apart
  have hlow := h1'.low
  clear hb1
  go_wp2_with (go_at_call 49; (with_reducible refine (isNaN_any _ _).mono ?_); rintro e w' ⟨rfl, rfl⟩)
  go_quiet (fail)
  rename_i nq
  have hcb' := hid hcb
  clear hcb
  go_wp2
  refine wp_region_notes_late [Note.val (.pointer (some ⟨T, 0, none⟩)), Note.val (.pointer (some ⟨T, 0, none⟩)), Note.val (.pointer (some ⟨T, 0, none⟩)), Note.val (.pointer (some ⟨T, 1, none⟩)), Note.val (.slice va its.length vc), Note.val (.int .i64 p), Note.val (.float .f64 kb), Note.val (.float .f64 (cbits kb)), Note.val (.int .i64 n), Note.val (.agg #[.float .f64 (cbits kb), .int .i64 n]), Note.row 41 1 1 [.float .f64 (cbits kb), .int .i64 n]] 0 rfl (by kernel_rfl) (by kernel_rfl) ?_ ?_ ?_
  · simp only [List.length_cons, List.length_nil, Nat.reduceAdd, List.take_succ_cons, List.take_zero, StepsN, List.nil_append, List.cons_append]
    refine ⟨?_, ?_, ?_, ?_, ?_, ?_, ?_, ?_, ?_, ?_, ?_, trivial⟩
    · intro u w2 hb2 hd
      obtain ⟨hc2, hf2⟩ := bcell hb2
      (try simp only [World.heap_drewN, World.cell?_drewN, World.frozen?_drewN] at hc2 hf2)
      have hz2 := hb2.size
      (try simp at hz2)
      (try have hy2_0 : w.heap.size < w2.heap.size := by omega)
      (try have hy2_1 : w.heap.size + 1 < w2.heap.size := by omega)
      (try have hy2_2 : w.heap.size + 2 < w2.heap.size := by omega)
      (try have hy2_3 : w.heap.size + 3 < w2.heap.size := by omega)
      (try have hx2_0 : w.heap.size ≤ w2.heap.size := by omega)
      (try have hx2_1 : w.heap.size + 1 ≤ w2.heap.size := by omega)
      (try have hx2_2 : w.heap.size + 2 ≤ w2.heap.size := by omega)
      (try (simp [Region.binds, Note.phi, cellsAre] at hd))
      revert hd
      (try simp only [putsFrom, Act.put, List.setIfInBounds_toArray, List.set_cons_zero, List.set_cons_succ, Nat.zero_add, Nat.reduceAdd])
      ((try simp only [forall_exists_index, and_imp]); intros)
      clear u
      go_wp2_with (first | (go_at_call 51; (with_reducible refine (floCanon_any _ hk _).mono ?_); rintro e wy ⟨rfl, rfl⟩))
      exact ⟨rfl, by (repeat (first | with_reducible exact Below.refl _ _ | ((with_reducible refine Below.alloc1 ?_ ?_ _); (· first | omega | (simp; done) | (simp; omega))) | (with_reducible refine Below.drew ?_) | (with_reducible refine below_drewN' ?_ _) | ((with_reducible refine Below.setCell1 ?_ ?_ _); (· first | omega | (simp; done) | (simp; omega))) | ((with_reducible refine Below.after (by assumption) ?_ ?_); (· first | omega | (simp; done) | (simp; omega))))), rfl⟩
    · intro u w2 hb2 hd
      obtain ⟨hc2, hf2⟩ := bcell hb2
      (try simp only [World.heap_drewN, World.cell?_drewN, World.frozen?_drewN] at hc2 hf2)
      have hz2 := hb2.size
      (try simp at hz2)
      (try have hy2_0 : w.heap.size < w2.heap.size := by omega)
      (try have hy2_1 : w.heap.size + 1 < w2.heap.size := by omega)
      (try have hy2_2 : w.heap.size + 2 < w2.heap.size := by omega)
      (try have hy2_3 : w.heap.size + 3 < w2.heap.size := by omega)
      (try have hx2_0 : w.heap.size ≤ w2.heap.size := by omega)
      (try have hx2_1 : w.heap.size + 1 ≤ w2.heap.size := by omega)
      (try have hx2_2 : w.heap.size + 2 ≤ w2.heap.size := by omega)
      (try (simp [Region.binds, Note.phi, cellsAre] at hd))
      revert hd
      (try simp only [putsFrom, Act.put, List.setIfInBounds_toArray, List.set_cons_zero, List.set_cons_succ, Nat.zero_add, Nat.reduceAdd])
      generalize u 0 = u0
      ((try simp only [forall_exists_index, and_imp]); intros)
      (try subst u0)
      clear u
      go_wp2_with (first | (go_at_call 51; (with_reducible refine (floCanon_any _ hk _).mono ?_); rintro e wy ⟨rfl, rfl⟩))
      exact ⟨rfl, by (repeat (first | with_reducible exact Below.refl _ _ | ((with_reducible refine Below.alloc1 ?_ ?_ _); (· first | omega | (simp; done) | (simp; omega))) | (with_reducible refine Below.drew ?_) | (with_reducible refine below_drewN' ?_ _) | ((with_reducible refine Below.setCell1 ?_ ?_ _); (· first | omega | (simp; done) | (simp; omega))) | ((with_reducible refine Below.after (by assumption) ?_ ?_); (· first | omega | (simp; done) | (simp; omega))))), rfl⟩
    · intro u w2 hb2 hd
      obtain ⟨hc2, hf2⟩ := bcell hb2
      (try simp only [World.heap_drewN, World.cell?_drewN, World.frozen?_drewN] at hc2 hf2)
      have hz2 := hb2.size
      (try simp at hz2)
      (try have hy2_0 : w.heap.size < w2.heap.size := by omega)
      (try have hy2_1 : w.heap.size + 1 < w2.heap.size := by omega)
      (try have hy2_2 : w.heap.size + 2 < w2.heap.size := by omega)
      (try have hy2_3 : w.heap.size + 3 < w2.heap.size := by omega)
      (try have hx2_0 : w.heap.size ≤ w2.heap.size := by omega)
      (try have hx2_1 : w.heap.size + 1 ≤ w2.heap.size := by omega)
      (try have hx2_2 : w.heap.size + 2 ≤ w2.heap.size := by omega)
      (try (simp [Region.binds, Note.phi, cellsAre] at hd))
      revert hd
      (try simp only [putsFrom, Act.put, List.setIfInBounds_toArray, List.set_cons_zero, List.set_cons_succ, Nat.zero_add, Nat.reduceAdd])
      generalize u 0 = u0
      generalize u 1 = u1
      ((try simp only [forall_exists_index, and_imp]); intros)
      (try subst u0)
      (try subst u1)
      clear u
      go_wp2_with (first | (go_at_call 51; (with_reducible refine (floCanon_any _ hk _).mono ?_); rintro e wy ⟨rfl, rfl⟩))
      exact ⟨rfl, by (repeat (first | with_reducible exact Below.refl _ _ | ((with_reducible refine Below.alloc1 ?_ ?_ _); (· first | omega | (simp; done) | (simp; omega))) | (with_reducible refine Below.drew ?_) | (with_reducible refine below_drewN' ?_ _) | ((with_reducible refine Below.setCell1 ?_ ?_ _); (· first | omega | (simp; done) | (simp; omega))) | ((with_reducible refine Below.after (by assumption) ?_ ?_); (· first | omega | (simp; done) | (simp; omega))))), rfl⟩
    · intro u w2 hb2 hd
      obtain ⟨hc2, hf2⟩ := bcell hb2
      (try simp only [World.heap_drewN, World.cell?_drewN, World.frozen?_drewN] at hc2 hf2)
      have hz2 := hb2.size
      (try simp at hz2)
      (try have hy2_0 : w.heap.size < w2.heap.size := by omega)
      (try have hy2_1 : w.heap.size + 1 < w2.heap.size := by omega)
      (try have hy2_2 : w.heap.size + 2 < w2.heap.size := by omega)
      (try have hy2_3 : w.heap.size + 3 < w2.heap.size := by omega)
      (try have hx2_0 : w.heap.size ≤ w2.heap.size := by omega)
      (try have hx2_1 : w.heap.size + 1 ≤ w2.heap.size := by omega)
      (try have hx2_2 : w.heap.size + 2 ≤ w2.heap.size := by omega)
      (try (simp [Region.binds, Note.phi, cellsAre] at hd))
      revert hd
      (try simp only [putsFrom, Act.put, List.setIfInBounds_toArray, List.set_cons_zero, List.set_cons_succ, Nat.zero_add, Nat.reduceAdd])
      generalize u 0 = u0
      generalize u 1 = u1
      generalize u 2 = u2
      ((try simp only [forall_exists_index, and_imp]); intros)
      (try subst u0)
      (try subst u1)
      (try subst u2)
      clear u
      go_wp2_with (first | (go_at_call 51; (with_reducible refine (floCanon_any _ hk _).mono ?_); rintro e wy ⟨rfl, rfl⟩))
      exact ⟨rfl, by (repeat (first | with_reducible exact Below.refl _ _ | ((with_reducible refine Below.alloc1 ?_ ?_ _); (· first | omega | (simp; done) | (simp; omega))) | (with_reducible refine Below.drew ?_) | (with_reducible refine below_drewN' ?_ _) | ((with_reducible refine Below.setCell1 ?_ ?_ _); (· first | omega | (simp; done) | (simp; omega))) | ((with_reducible refine Below.after (by assumption) ?_ ?_); (· first | omega | (simp; done) | (simp; omega))))), rfl⟩
    · intro u w2 hb2 hd
      obtain ⟨hc2, hf2⟩ := bcell hb2
      (try simp only [World.heap_drewN, World.cell?_drewN, World.frozen?_drewN] at hc2 hf2)
      have hz2 := hb2.size
      (try simp at hz2)
      (try have hy2_0 : w.heap.size < w2.heap.size := by omega)
      (try have hy2_1 : w.heap.size + 1 < w2.heap.size := by omega)
      (try have hy2_2 : w.heap.size + 2 < w2.heap.size := by omega)
      (try have hy2_3 : w.heap.size + 3 < w2.heap.size := by omega)
      (try have hx2_0 : w.heap.size ≤ w2.heap.size := by omega)
      (try have hx2_1 : w.heap.size + 1 ≤ w2.heap.size := by omega)
      (try have hx2_2 : w.heap.size + 2 ≤ w2.heap.size := by omega)
      (try (simp [Region.binds, Note.phi, cellsAre] at hd))
      revert hd
      (try simp only [putsFrom, Act.put, List.setIfInBounds_toArray, List.set_cons_zero, List.set_cons_succ, Nat.zero_add, Nat.reduceAdd])
      generalize u 0 = u0
      generalize u 1 = u1
      generalize u 2 = u2
      generalize u 3 = u3
      ((try simp only [forall_exists_index, and_imp]); intros)
      (try subst u0)
      (try subst u1)
      (try subst u2)
      (try subst u3)
      clear u
      go_wp2_with (first | (go_at_call 51; (with_reducible refine (floCanon_any _ hk _).mono ?_); rintro e wy ⟨rfl, rfl⟩))
      exact ⟨rfl, by (repeat (first | with_reducible exact Below.refl _ _ | ((with_reducible refine Below.alloc1 ?_ ?_ _); (· first | omega | (simp; done) | (simp; omega))) | (with_reducible refine Below.drew ?_) | (with_reducible refine below_drewN' ?_ _) | ((with_reducible refine Below.setCell1 ?_ ?_ _); (· first | omega | (simp; done) | (simp; omega))) | ((with_reducible refine Below.after (by assumption) ?_ ?_); (· first | omega | (simp; done) | (simp; omega))))), rfl⟩
    · intro u w2 hb2 hd
      obtain ⟨hc2, hf2⟩ := bcell hb2
      (try simp only [World.heap_drewN, World.cell?_drewN, World.frozen?_drewN] at hc2 hf2)
      have hz2 := hb2.size
      (try simp at hz2)
      (try have hy2_0 : w.heap.size < w2.heap.size := by omega)
      (try have hy2_1 : w.heap.size + 1 < w2.heap.size := by omega)
      (try have hy2_2 : w.heap.size + 2 < w2.heap.size := by omega)
      (try have hy2_3 : w.heap.size + 3 < w2.heap.size := by omega)
      (try have hx2_0 : w.heap.size ≤ w2.heap.size := by omega)
      (try have hx2_1 : w.heap.size + 1 ≤ w2.heap.size := by omega)
      (try have hx2_2 : w.heap.size + 2 ≤ w2.heap.size := by omega)
      (try (simp [Region.binds, Note.phi, cellsAre] at hd))
      revert hd
      (try simp only [putsFrom, Act.put, List.setIfInBounds_toArray, List.set_cons_zero, List.set_cons_succ, Nat.zero_add, Nat.reduceAdd])
      generalize u 0 = u0
      generalize u 1 = u1
      generalize u 2 = u2
      generalize u 3 = u3
      generalize u 4 = u4
      ((try simp only [forall_exists_index, and_imp]); intros)
      (try subst u0)
      (try subst u1)
      (try subst u2)
      (try subst u3)
      (try subst u4)
      clear u
      go_wp2_with (first | (go_at_call 51; (with_reducible refine (floCanon_any _ hk _).mono ?_); rintro e wy ⟨rfl, rfl⟩))
      exact ⟨rfl, by (repeat (first | with_reducible exact Below.refl _ _ | ((with_reducible refine Below.alloc1 ?_ ?_ _); (· first | omega | (simp; done) | (simp; omega))) | (with_reducible refine Below.drew ?_) | (with_reducible refine below_drewN' ?_ _) | ((with_reducible refine Below.setCell1 ?_ ?_ _); (· first | omega | (simp; done) | (simp; omega))) | ((with_reducible refine Below.after (by assumption) ?_ ?_); (· first | omega | (simp; done) | (simp; omega))))), rfl⟩
    · intro u w2 hb2 hd
      obtain ⟨hc2, hf2⟩ := bcell hb2
      (try simp only [World.heap_drewN, World.cell?_drewN, World.frozen?_drewN] at hc2 hf2)
      have hz2 := hb2.size
      (try simp at hz2)
      (try have hy2_0 : w.heap.size < w2.heap.size := by omega)
      (try have hy2_1 : w.heap.size + 1 < w2.heap.size := by omega)
      (try have hy2_2 : w.heap.size + 2 < w2.heap.size := by omega)
      (try have hy2_3 : w.heap.size + 3 < w2.heap.size := by omega)
      (try have hx2_0 : w.heap.size ≤ w2.heap.size := by omega)
      (try have hx2_1 : w.heap.size + 1 ≤ w2.heap.size := by omega)
      (try have hx2_2 : w.heap.size + 2 ≤ w2.heap.size := by omega)
      (try (simp [Region.binds, Note.phi, cellsAre] at hd))
      revert hd
      (try simp only [putsFrom, Act.put, List.setIfInBounds_toArray, List.set_cons_zero, List.set_cons_succ, Nat.zero_add, Nat.reduceAdd])
      generalize u 0 = u0
      generalize u 1 = u1
      generalize u 2 = u2
      generalize u 3 = u3
      generalize u 4 = u4
      generalize u 5 = u5
      ((try simp only [forall_exists_index, and_imp]); intros)
      (try subst u0)
      (try subst u1)
      (try subst u2)
      (try subst u3)
      (try subst u4)
      (try subst u5)
      clear u
      go_wp2_with (first | (go_at_call 51; (with_reducible refine (floCanon_any _ hk _).mono ?_); rintro e wy ⟨rfl, rfl⟩))
      exact ⟨rfl, by (repeat (first | with_reducible exact Below.refl _ _ | ((with_reducible refine Below.alloc1 ?_ ?_ _); (· first | omega | (simp; done) | (simp; omega))) | (with_reducible refine Below.drew ?_) | (with_reducible refine below_drewN' ?_ _) | ((with_reducible refine Below.setCell1 ?_ ?_ _); (· first | omega | (simp; done) | (simp; omega))) | ((with_reducible refine Below.after (by assumption) ?_ ?_); (· first | omega | (simp; done) | (simp; omega))))), rfl⟩
    · intro u w2 hb2 hd
      obtain ⟨hc2, hf2⟩ := bcell hb2
      (try simp only [World.heap_drewN, World.cell?_drewN, World.frozen?_drewN] at hc2 hf2)
      have hz2 := hb2.size
      (try simp at hz2)
      (try have hy2_0 : w.heap.size < w2.heap.size := by omega)
      (try have hy2_1 : w.heap.size + 1 < w2.heap.size := by omega)
      (try have hy2_2 : w.heap.size + 2 < w2.heap.size := by omega)
      (try have hy2_3 : w.heap.size + 3 < w2.heap.size := by omega)
      (try have hx2_0 : w.heap.size ≤ w2.heap.size := by omega)
      (try have hx2_1 : w.heap.size + 1 ≤ w2.heap.size := by omega)
      (try have hx2_2 : w.heap.size + 2 ≤ w2.heap.size := by omega)
      (try (simp [Region.binds, Note.phi, cellsAre] at hd))
      revert hd
      (try simp only [putsFrom, Act.put, List.setIfInBounds_toArray, List.set_cons_zero, List.set_cons_succ, Nat.zero_add, Nat.reduceAdd])
      generalize u 0 = u0
      generalize u 1 = u1
      generalize u 2 = u2
      generalize u 3 = u3
      generalize u 4 = u4
      generalize u 5 = u5
      generalize u 6 = u6
      ((try simp only [forall_exists_index, and_imp]); intros)
      (try subst u0)
      (try subst u1)
      (try subst u2)
      (try subst u3)
      (try subst u4)
      (try subst u5)
      (try subst u6)
      clear u
      go_wp2_with (first | (go_at_call 51; (with_reducible refine (floCanon_any _ hk _).mono ?_); rintro e wy ⟨rfl, rfl⟩))
      exact ⟨rfl, by (repeat (first | with_reducible exact Below.refl _ _ | ((with_reducible refine Below.alloc1 ?_ ?_ _); (· first | omega | (simp; done) | (simp; omega))) | (with_reducible refine Below.drew ?_) | (with_reducible refine below_drewN' ?_ _) | ((with_reducible refine Below.setCell1 ?_ ?_ _); (· first | omega | (simp; done) | (simp; omega))) | ((with_reducible refine Below.after (by assumption) ?_ ?_); (· first | omega | (simp; done) | (simp; omega))))), rfl⟩
    · intro u w2 hb2 hd
      obtain ⟨hc2, hf2⟩ := bcell hb2
      (try simp only [World.heap_drewN, World.cell?_drewN, World.frozen?_drewN] at hc2 hf2)
      have hz2 := hb2.size
      (try simp at hz2)
      (try have hy2_0 : w.heap.size < w2.heap.size := by omega)
      (try have hy2_1 : w.heap.size + 1 < w2.heap.size := by omega)
      (try have hy2_2 : w.heap.size + 2 < w2.heap.size := by omega)
      (try have hy2_3 : w.heap.size + 3 < w2.heap.size := by omega)
      (try have hx2_0 : w.heap.size ≤ w2.heap.size := by omega)
      (try have hx2_1 : w.heap.size + 1 ≤ w2.heap.size := by omega)
      (try have hx2_2 : w.heap.size + 2 ≤ w2.heap.size := by omega)
      (try (simp [Region.binds, Note.phi, cellsAre] at hd))
      revert hd
      (try simp only [putsFrom, Act.put, List.setIfInBounds_toArray, List.set_cons_zero, List.set_cons_succ, Nat.zero_add, Nat.reduceAdd])
      generalize u 0 = u0
      generalize u 1 = u1
      generalize u 2 = u2
      generalize u 3 = u3
      generalize u 4 = u4
      generalize u 5 = u5
      generalize u 6 = u6
      generalize u 7 = u7
      ((try simp only [forall_exists_index, and_imp]); intros)
      (try subst u0)
      (try subst u1)
      (try subst u2)
      (try subst u3)
      (try subst u4)
      (try subst u5)
      (try subst u6)
      (try subst u7)
      clear u
      go_wp2_with (first | (go_at_call 51; (with_reducible refine (floCanon_any _ hk _).mono ?_); rintro e wy ⟨rfl, rfl⟩))
      exact ⟨rfl, by (repeat (first | with_reducible exact Below.refl _ _ | ((with_reducible refine Below.alloc1 ?_ ?_ _); (· first | omega | (simp; done) | (simp; omega))) | (with_reducible refine Below.drew ?_) | (with_reducible refine below_drewN' ?_ _) | ((with_reducible refine Below.setCell1 ?_ ?_ _); (· first | omega | (simp; done) | (simp; omega))) | ((with_reducible refine Below.after (by assumption) ?_ ?_); (· first | omega | (simp; done) | (simp; omega))))), rfl⟩
    · intro u w2 hb2 hd
      obtain ⟨hc2, hf2⟩ := bcell hb2
      (try simp only [World.heap_drewN, World.cell?_drewN, World.frozen?_drewN] at hc2 hf2)
      have hz2 := hb2.size
      (try simp at hz2)
      (try have hy2_0 : w.heap.size < w2.heap.size := by omega)
      (try have hy2_1 : w.heap.size + 1 < w2.heap.size := by omega)
      (try have hy2_2 : w.heap.size + 2 < w2.heap.size := by omega)
      (try have hy2_3 : w.heap.size + 3 < w2.heap.size := by omega)
      (try have hx2_0 : w.heap.size ≤ w2.heap.size := by omega)
      (try have hx2_1 : w.heap.size + 1 ≤ w2.heap.size := by omega)
      (try have hx2_2 : w.heap.size + 2 ≤ w2.heap.size := by omega)
      (try (simp [Region.binds, Note.phi, cellsAre] at hd))
      revert hd
      (try simp only [putsFrom, Act.put, List.setIfInBounds_toArray, List.set_cons_zero, List.set_cons_succ, Nat.zero_add, Nat.reduceAdd])
      generalize u 0 = u0
      generalize u 1 = u1
      generalize u 2 = u2
      generalize u 3 = u3
      generalize u 4 = u4
      generalize u 5 = u5
      generalize u 6 = u6
      generalize u 7 = u7
      generalize u 8 = u8
      ((try simp only [forall_exists_index, and_imp]); intros)
      (try subst u0)
      (try subst u1)
      (try subst u2)
      (try subst u3)
      (try subst u4)
      (try subst u5)
      (try subst u6)
      (try subst u7)
      (try subst u8)
      clear u
      go_wp2_with (first | (go_at_call 51; (with_reducible refine (floCanon_any _ hk _).mono ?_); rintro e wy ⟨rfl, rfl⟩))
      exact ⟨rfl, by (repeat (first | with_reducible exact Below.refl _ _ | ((with_reducible refine Below.alloc1 ?_ ?_ _); (· first | omega | (simp; done) | (simp; omega))) | (with_reducible refine Below.drew ?_) | (with_reducible refine below_drewN' ?_ _) | ((with_reducible refine Below.setCell1 ?_ ?_ _); (· first | omega | (simp; done) | (simp; omega))) | ((with_reducible refine Below.after (by assumption) ?_ ?_); (· first | omega | (simp; done) | (simp; omega))))), rfl⟩
    · intro u w2 hb2 hd
      obtain ⟨hc2, hf2⟩ := bcell hb2
      (try simp only [World.heap_drewN, World.cell?_drewN, World.frozen?_drewN] at hc2 hf2)
      have hz2 := hb2.size
      (try simp at hz2)
      (try have hy2_0 : w.heap.size < w2.heap.size := by omega)
      (try have hy2_1 : w.heap.size + 1 < w2.heap.size := by omega)
      (try have hy2_2 : w.heap.size + 2 < w2.heap.size := by omega)
      (try have hy2_3 : w.heap.size + 3 < w2.heap.size := by omega)
      (try have hx2_0 : w.heap.size ≤ w2.heap.size := by omega)
      (try have hx2_1 : w.heap.size + 1 ≤ w2.heap.size := by omega)
      (try have hx2_2 : w.heap.size + 2 ≤ w2.heap.size := by omega)
      (try (simp [Region.binds, Note.phi, cellsAre] at hd))
      revert hd
      (try simp only [putsFrom, Act.put, List.setIfInBounds_toArray, List.set_cons_zero, List.set_cons_succ, Nat.zero_add, Nat.reduceAdd])
      generalize u 0 = u0
      generalize u 1 = u1
      generalize u 2 = u2
      generalize u 3 = u3
      generalize u 4 = u4
      generalize u 5 = u5
      generalize u 6 = u6
      generalize u 7 = u7
      generalize u 8 = u8
      generalize u 9 = u9
      ((try simp only [forall_exists_index, and_imp]); intros)
      (try subst u0)
      (try subst u1)
      (try subst u2)
      (try subst u3)
      (try subst u4)
      (try subst u5)
      (try subst u6)
      (try subst u7)
      (try subst u8)
      (try subst u9)
      clear u
      go_wp2_with (first | (go_at_call 51; (with_reducible refine (floCanon_any _ hk _).mono ?_); rintro e wy ⟨rfl, rfl⟩))
      exact ⟨rfl, by (repeat (first | with_reducible exact Below.refl _ _ | ((with_reducible refine Below.alloc1 ?_ ?_ _); (· first | omega | (simp; done) | (simp; omega))) | (with_reducible refine Below.drew ?_) | (with_reducible refine below_drewN' ?_ _) | ((with_reducible refine Below.setCell1 ?_ ?_ _); (· first | omega | (simp; done) | (simp; omega))) | ((with_reducible refine Below.after (by assumption) ?_ ?_); (· first | omega | (simp; done) | (simp; omega))))), w2.heap.size, rfl, Nat.le_refl _, by simp, heap_alloc_new _ _⟩
  intro u w2 hb2 hph hap
  obtain ⟨hc2, hf2⟩ := bcell hb2
  (try simp only [World.heap_drewN, World.cell?_drewN, World.frozen?_drewN] at hc2 hf2)
  have hz2 := hb2.size
  (try simp at hz2)
  (try have hy2_0 : w.heap.size < w2.heap.size := by omega)
  (try have hy2_1 : w.heap.size + 1 < w2.heap.size := by omega)
  (try have hy2_2 : w.heap.size + 2 < w2.heap.size := by omega)
  (try have hy2_3 : w.heap.size + 3 < w2.heap.size := by omega)
  (try have hx2_0 : w.heap.size ≤ w2.heap.size := by omega)
  (try have hx2_1 : w.heap.size + 1 ≤ w2.heap.size := by omega)
  (try have hx2_2 : w.heap.size + 2 ≤ w2.heap.size := by omega)
  have hp0 := hph 0 (by simp)
  have hp1 := hph 1 (by simp)
  have hp2 := hph 2 (by simp)
  have hp3 := hph 3 (by simp)
  have hp4 := hph 4 (by simp)
  have hp5 := hph 5 (by simp)
  have hp6 := hph 6 (by simp)
  have hp7 := hph 7 (by simp)
  have hp8 := hph 8 (by simp)
  have hp9 := hph 9 (by simp)
  have hp10 := hph 10 (by simp)
  clear hph hap
  simp only [List.length_cons, List.length_nil, List.take_succ_cons, List.take_zero, List.drop_succ_cons, List.drop_zero, List.cons_append, List.nil_append, putsFrom, putsBut, Act.put, List.setIfInBounds_toArray, List.set_cons_zero, List.set_cons_succ, Nat.zero_add, Nat.reduceAdd, Nat.reduceEqDiff, if_true, if_false, reduceIte, Nat.zero_ne_one, Nat.one_ne_zero]
  generalize u 0 = u0 at *
  generalize u 1 = u1 at *
  generalize u 2 = u2 at *
  generalize u 3 = u3 at *
  generalize u 4 = u4 at *
  generalize u 5 = u5 at *
  generalize u 6 = u6 at *
  generalize u 7 = u7 at *
  generalize u 8 = u8 at *
  generalize u 9 = u9 at *
  generalize u 10 = u10 at *
  clear u
  cases hp0
  cases hp1
  cases hp2
  cases hp3
  cases hp4
  cases hp5
  cases hp6
  cases hp7
  cases hp8
  cases hp9
  obtain ⟨B10, rfl, hl10, hg10, hs10⟩ := hp10
  (try simp only [cellsAre, and_true] at hs10)
  rotate_left
  intro u w2 hb2 hph hap
  obtain ⟨hc2, hf2⟩ := bcell hb2
  (try simp only [World.heap_drewN, World.cell?_drewN, World.frozen?_drewN] at hc2 hf2)
  have hz2 := hb2.size
  (try simp at hz2)
  (try have hy2_0 : w.heap.size < w2.heap.size := by omega)
  (try have hy2_1 : w.heap.size + 1 < w2.heap.size := by omega)
  (try have hy2_2 : w.heap.size + 2 < w2.heap.size := by omega)
  (try have hy2_3 : w.heap.size + 3 < w2.heap.size := by omega)
  (try have hx2_0 : w.heap.size ≤ w2.heap.size := by omega)
  (try have hx2_1 : w.heap.size + 1 ≤ w2.heap.size := by omega)
  (try have hx2_2 : w.heap.size + 2 ≤ w2.heap.size := by omega)
  have hp1 := hph 1 (by simp) (by decide)
  have hp2 := hph 2 (by simp) (by decide)
  have hp3 := hph 3 (by simp) (by decide)
  have hp4 := hph 4 (by simp) (by decide)
  have hp5 := hph 5 (by simp) (by decide)
  have hp6 := hph 6 (by simp) (by decide)
  have hp7 := hph 7 (by simp) (by decide)
  have hp8 := hph 8 (by simp) (by decide)
  have hp9 := hph 9 (by simp) (by decide)
  have hp10 := hph 10 (by simp) (by decide)
  clear hph hap
  simp only [List.length_cons, List.length_nil, List.take_succ_cons, List.take_zero, List.drop_succ_cons, List.drop_zero, List.cons_append, List.nil_append, putsFrom, putsBut, Act.put, List.setIfInBounds_toArray, List.set_cons_zero, List.set_cons_succ, Nat.zero_add, Nat.reduceAdd, Nat.reduceEqDiff, if_true, if_false, reduceIte, Nat.zero_ne_one, Nat.one_ne_zero]
  generalize u 1 = u1 at *
  generalize u 2 = u2 at *
  generalize u 3 = u3 at *
  generalize u 4 = u4 at *
  generalize u 5 = u5 at *
  generalize u 6 = u6 at *
  generalize u 7 = u7 at *
  generalize u 8 = u8 at *
  generalize u 9 = u9 at *
  generalize u 10 = u10 at *
  clear u
  cases hp1
  cases hp2
  cases hp3
  cases hp4
  cases hp5
  cases hp6
  cases hp7
  cases hp8
  cases hp9
  obtain ⟨B10, rfl, hl10, hg10, hs10⟩ := hp10
  (try simp only [cellsAre, and_true] at hs10)
  rotate_left
  all_goals
    have hb12 : Below w1.heap.size w1 w2 := by (repeat (first | with_reducible exact Below.refl _ _ | ((with_reducible refine Below.alloc1 ?_ ?_ _); (· first | omega | (simp; done) | (simp; omega))) | (with_reducible refine Below.drew ?_) | (with_reducible refine below_drewN' ?_ _) | ((with_reducible refine Below.setCell1 ?_ ?_ _); (· first | omega | (simp; done) | (simp; omega))) | ((with_reducible refine Below.after (by assumption) ?_ ?_); (· first | omega | (simp; done) | (simp; omega)))))
    have h2t := h1'.below hb12
    have hsz12 := hb12.size
    have hB2 : B ≤ w2.heap.size := by omega
    have hub2 : Upd w w2 T (.slice va its.length vc) (.slice va its.length vc) := ⟨hb12.os.trans hub.os, hb12.tape.trans hub.tape, hb12.output.trans hub.output, Nat.le_trans hub.size hb12.size, fun k hk h1 h2 => (hb12.block k (Nat.lt_of_lt_of_le hk hub.size)).trans (hub.block k hk h1 h2), .inl rfl⟩
    have hlB : w1.heap.size ≤ B10 := by simpa using hl10
    have hvB : (Value.slice va its.length vc).ownBlock ≠ some B10 := by
      intro e
      have := (h1'.own.lt B10 e).2
      omega
    have hI := vInsert (.slice va its.length vc) B10 B its.length p (itCells its) [.float .f64 (cbits kb), .int .i64 n] w2 hB2 h2t.own (by omega) hple (itCells_one its) rfl (by intro u hu; simp at hu; rcases hu with rfl | rfl <;> rfl) hs10 hvB
    clear hc2 hf2 hs10
    have cT := cell_row h2t.tab 1
    simp at cT
    go_wp2_with fail
    with_reducible refine hI.mono ?_
    rintro e w3 ⟨v', rfl, hown3, hgr3⟩
    clear hI
    rcases hown3.2 with ⟨rfl, h0⟩ | ⟨g3, cap3, cur3, rfl, hbg3, hg3, hnc3, hcm3, hcs3, htake3⟩
    · have := hown3.1
      rw [h0] at this; simp at this
    · have hT2 := h2t.lt
      have t3 : w3.heap[T]? = some (.cells #[.int .i64 most, .slice va its.length vc] 93 (0, 0)) := (hgr3.1.block T hT2 (fun e => hvT e.symm)).trans h2t.tab
      have c3 := cell_row t3 1
      have f3 : w3.frozen? ⟨T, 1, none⟩ = false := by simp [World.frozen?, t3]
      simp at c3
      have hgT : g3 ≠ T := fun e => by
        rcases hgr3.2 with h | h | ⟨g, h, hge⟩
        · exact hvT (by rw [← h, e]; rfl)
        · simp [Value.ownBlock] at h
        · simp [Value.ownBlock] at h; omega
      have hcells : itCells its |>.take (p * 2) |> (· ++ [Value.float .f64 (cbits kb), Value.int .i64 n] ++ (itCells its).drop (p * 2)) |> (· = itCells (its.take p ++ [⟨kof kb, n⟩] ++ its.drop p)) := by
        show (itCells its).take (p * 2) ++ [Value.float .f64 (cbits kb), Value.int .i64 n] ++ (itCells its).drop (p * 2) = _
        unfold itCells
        rw [flat_take ItV.enc_len, flat_drop ItV.enc_len, List.flatMap_append, List.flatMap_append, hcb'.out]
        rfl
      have hlen3 : (its.take p ++ [(⟨kof kb, n⟩ : ItV)] ++ its.drop p).length = its.length + 1 := by simp; omega
      have fin : PutRet w B T (.slice va its.length vc) most (0, its.take p ++ [⟨kof kb, n⟩] ++ its.drop p) (.returned (.int .i64 0)) (w3.setCell ⟨T, 1, none⟩ (.slice (some ⟨g3, 0, none⟩) (its.length + 1) cap3)) := by
        rw [setCell_eq_setRow w3 T 1 _ _ _ _ t3]
        have hk3 := grownBy_setRow w3 T (#[Value.int .i64 most, Value.slice va its.length vc].setIfInBounds 1 (.slice (some ⟨g3, 0, none⟩) (its.length + 1) cap3))
        refine ⟨.slice (some ⟨g3, 0, none⟩) (its.length + 1) cap3, rfl, ⟨?_, ?_, by simpa [Value.ownBlock] using hgT, hlow, by rw [hlen3]; omega⟩, ⟨?_, ?_, ?_, ?_, ?_, ?_⟩⟩
        · rw [setRow_heap w3 T _ _ _ _ t3]; rfl
        · rw [hlen3, ← hcells]
          exact hown3.kept hk3 (.inr (by simpa [Value.ownBlock] using hgT))
        · exact hk3.os.trans (hgr3.1.os.trans hub2.os)
        · exact hk3.tape.trans (hgr3.1.tape.trans hub2.tape)
        · exact hk3.output.trans (hgr3.1.output.trans hub2.output)
        · exact Nat.le_trans hub2.size (Nat.le_trans hgr3.1.size hk3.size)
        · intro k hk hkT hkv
          have q1 := hub2.size
          have q2 := hgr3.1.size
          exact (hk3.block k (by omega) (by simpa using hkT)).trans ((hgr3.1.block k (by omega) hkv).trans (hub2.block k hk hkT hkv))
        · rcases hgr3.2 with h | h | ⟨g, h, hge⟩
          · exact .inl h
          · exact .inr (.inl h)
          · exact .inr (.inr ⟨g, h, Nat.le_trans hub2.size hge⟩)
      have hfin := hid fin
      clear fin hcells hlen3 t3 hown3 hgr3 hub2 hub h1' h2t hown hg3 hcs3 htake3 hcb' hb12 hr hvT hvB hgT
      go_wp2
      go_ret
      exact hfin.out

theorem tabPut_any {w : World} {B T : Nat} {v : Value} {most : Int} {its : List ItV} (h : TabAt w B T v most its) (hB : B ≤ w.heap.size) (hr : rises its) (kb : Nat) (hk : kb < 2 ^ 64) (n : Int) (hm1 : (its.length : Int) ≤ most) (hm2 : most ≤ 64) :
    Calls Try.prog 15 #[.pointer (some ⟨T, 0, none⟩), .float .f64 kb, .int .i64 n] w (PutRet w B T v most (putI its most kb n)) := by
  unfold putI
  by_cases h1 : isNaN kb = true
  · rw [if_pos h1]; exact tabPut_bad h hr kb hk n 40 (.inl ⟨h1, rfl⟩)
  · have h1' : isNaN kb = false := by simpa using h1
    rw [if_neg h1]
    by_cases h2 : n < 1 ∨ 1099511627776 < n
    · rw [if_pos h2]
      by_cases h3 : n < 1
      · exact tabPut_bad h hr kb hk n 43 (.inr (.inl ⟨h1', h3, rfl⟩))
      · exact tabPut_bad h hr kb hk n 43 (.inr (.inr ⟨h1', by omega, by omega, rfl⟩))
    · rw [if_neg h2]
      by_cases h3 : plcB its kb = true
      · rw [if_pos h3]; exact tabPut_set h hr kb hk n h1' (by omega) (by omega) h3
      · have h3' : plcB its kb = false := by simpa using h3
        rw [if_neg h3]
        by_cases h4 : (its.length : Int) = most
        · rw [if_pos h4]; exact tabPut_full h hr kb hk n h1' (by omega) (by omega) h3' h4
        · rw [if_neg h4]; exact tabPut_ins h hB hr kb hk n h1' (by omega) (by omega) h3' h4 (by omega)
end Go.Proofs.Ytnlaepogkepnhaa
