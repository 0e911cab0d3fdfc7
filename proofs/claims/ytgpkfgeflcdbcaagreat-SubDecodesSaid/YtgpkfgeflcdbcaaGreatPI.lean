/- The document's One at keys. -/
import Derived.Test.YtgpkfgeflcdbcaaGreatPH
import Derived.Test.YtgpkfgeflcdbcaaGreatMPR
import Derived.Test.YtgpkfgeflcdbcaaGreatMR
import Derived.Test.YtgpkfgeflcdbcaaGreatKR
namespace Go.Proofs.YtgpkfgeflcdbcaaGreat.P
set_option linter.unusedVariables false
open Go.RowKit Fl

theorem isCode_okN (u : Nat) : isCode (u : Int) = okN u := by
  rw [Bool.eq_iff_iff]
  constructor
  · intro h
    rcases (isCode_iff _).1 h with h | ⟨h1, h2⟩ | ⟨h1, h2⟩
    · have : u = 0 := by omega
      rw [this]; exact okN_zero
    · have hk : ∃ k : Key, kcode k = (u : Int) := ⟨⟨(u : Int) - 9223372036854775808, by unfold inf; omega, by unfold inf; omega⟩, by unfold kcode; rw [if_pos (by simp only; omega)]; simp only; omega⟩
      obtain ⟨k, hk⟩ := hk
      have e : codeN k.bits = u := by
        have h3 : codeOf k.bits = kcode k := by simp [codeOf, Key.bits_nan, Key.kof_bits]
        unfold codeN; rw [h3, hk]; omega
      rw [← e]; exact okN_codeN _
    · have hk : ∃ k : Key, kcode k = (u : Int) := ⟨⟨(u : Int) - 9223372036854775807, by unfold inf; omega, by unfold inf; omega⟩, by unfold kcode; rw [if_neg (by simp only; omega)]; simp only; omega⟩
      obtain ⟨k, hk⟩ := hk
      have e : codeN k.bits = u := by
        have h3 : codeOf k.bits = kcode k := by simp [codeOf, Key.bits_nan, Key.kof_bits]
        unfold codeN; rw [h3, hk]; omega
      rw [← e]; exact okN_codeN _
  · intro h
    unfold okN at h
    rw [decide_eq_true_eq] at h
    rw [← h, codeN_int]
    unfold codeOf
    split
    · rfl
    · exact isCode_key _
theorem ofOk_any (u : Nat) (h : okN u = true) (w : World) :
    Calls Tryz.prog 82 #[.int .u64 (u : Nat)] w fun e w' => e = .returned (.float .f64 (ofN u)) ∧ w = w' := by
  have h1 := K.refOfC (ofN u) w
  have h2 := okN_cbits h
  have h3 : codeOf (ofN u) = (u : Int) := by rw [← codeN_int]; unfold okN at h; rw [decide_eq_true_eq] at h; rw [h]
  rw [h2, h3] at h1
  exact h1
theorem isCodeN_any (u : Nat) (hu : u < 18446744073709551616) (w : World) :
    Calls Tryz.prog 90 #[.int .u64 (u : Nat)] w fun e w' => e = .returned (.bool (okN u)) ∧ w = w' := by
  have h := refIsCode_any (u : Int) (by omega) (by omega) w
  rw [isCode_okN] at h; exact h
/-- One's end. -/
def OneRet (o : Option (Nat × List Nat)) (w : World) (e : Ending) (w' : World) : Prop := Below w.heap.size w w' ∧ match o with
  | none => e = .returned (.tuple #[.agg #[.int .i64 2, .int .i64 0, .float .f64 0, .slice none 0 0, .bool false], .int .i64 0])
  | some (x, _) => e = .returned (.tuple #[.agg #[.int .i64 2, .int .i64 0, .float .f64 x, .slice none 0 0, .bool false], .int .i64 8])
theorem add_key {u c i : Nat} (hi : i < 8) (hu : u < 256 ^ i) (hc : c < 256) : IntKind.u64.wrap (IntKind.u64.wrap ((u : Int) * 256) + (c : Int)) = ((u * 256 + c : Nat) : Int) := by
  have h1 : u * 256 + c < 18446744073709551616 := by
    have : i = 0 ∨ i = 1 ∨ i = 2 ∨ i = 3 ∨ i = 4 ∨ i = 5 ∨ i = 6 ∨ i = 7 := by omega
    rcases this with rfl | rfl | rfl | rfl | rfl | rfl | rfl | rfl <;> simp at hu <;> omega
  rw [IntKind.wrap_u64, IntKind.wrap_u64]; omega
theorem box5 {W : World} {g : Nat} {T : TypeId} {v0 v1 v2 v3 v4 : Value} (h : W.heap[g]? = some (.cells #[v0, v1, v2, v3, v4] T (0, 0))) :
    W.cell? ⟨g, 0, none⟩ = some v0 ∧ W.cell? ⟨g, 1, none⟩ = some v1 ∧ W.cell? ⟨g, 2, none⟩ = some v2 ∧ W.cell? ⟨g, 3, none⟩ = some v3 ∧ W.cell? ⟨g, 4, none⟩ = some v4 :=
  ⟨cell_of_row W g 0 _ _ (0, 0) h, cell_of_row W g 1 _ _ (0, 0) h, cell_of_row W g 2 _ _ (0, 0) h, cell_of_row W g 3 _ _ (0, 0) h, cell_of_row W g 4 _ _ (0, 0) h⟩
theorem set5 {w : World} {g : Nat} {T : TypeId} {a0 a1 a2 a3 a4 : Value} (h : w.heap[g]? = some (.cells #[a0, a1, a2, a3, a4] T (0, 0))) (v0 v1 v2 v3 v4 : Value) :
    (((((w.setCell ⟨g, 0, none⟩ v0).setCell ⟨g, 1, none⟩ v1).setCell ⟨g, 2, none⟩ v2).setCell ⟨g, 3, none⟩ v3).setCell ⟨g, 4, none⟩ v4).heap[g]? = some (.cells #[v0, v1, v2, v3, v4] T (0, 0)) ∧
    w.grownBy (((((w.setCell ⟨g, 0, none⟩ v0).setCell ⟨g, 1, none⟩ v1).setCell ⟨g, 2, none⟩ v2).setCell ⟨g, 3, none⟩ v3).setCell ⟨g, 4, none⟩ v4) (some g) := by
  obtain ⟨h1, k1⟩ := set1R (i := 0) h v0
  obtain ⟨h2, k2⟩ := set1R (i := 1) h1 v1
  obtain ⟨h3, k3⟩ := set1R (i := 2) h2 v2
  obtain ⟨h4, k4⟩ := set1R (i := 3) h3 v3
  obtain ⟨h5, k5⟩ := set1R (i := 4) h4 v4
  exact ⟨h5, (((k1.trans k2).trans k3).trans k4).trans k5⟩
set_option maxHeartbeats 2000000 in
set_option maxRecDepth 100000 in
theorem oneK_any (a : Option Addr) (c0 n : Nat) (bs : List Nat) (w : World) (hn : bs.length = n) (h : BAt w a bs) :
    Calls Tryz.prog 94 #[.slice a n c0, .int .i64 2] w (OneRet (getKey bs) w) := by
  have HB := hid h; have HN := hid hn
  clear h hn
  by_cases h8 : n < 8
  · have hq : getKey bs = none := by unfold getKey; rw [HN.out, if_pos h8]
    rw [hq]
    have h8' : (n : Int) < 8 := by omega
    go_enter Tryz.func94, Tryz.ntmps94
    go_wp2_with fail
    exact bodyPost_ret (v := .tuple #[.agg #[.int .i64 2, .int .i64 0, .float .f64 0, .slice none 0 0, .bool false], .int .i64 0]) (by simp [results, Tryz.results94, go_sem]) rfl ⟨by (repeat (first | with_reducible exact Below.refl _ _ | ((with_reducible refine Below.alloc1 ?_ ?_ _); (· first | omega | (simp; done) | (simp; omega))) | (with_reducible refine Below.drew ?_) | (with_reducible refine below_drewN' ?_ _) | ((with_reducible refine Below.setCell1 ?_ ?_ _); (· first | omega | (simp; done) | (simp; omega))) | ((with_reducible refine Below.after (by assumption) ?_ ?_); (· first | omega | (simp; done) | (simp; omega))))), rfl⟩
  · have hq : getKey bs = if okN (unkeyB (bs.take 8)) then some (ofN (unkeyB (bs.take 8)), bs.drop 8) else none := by unfold getKey; rw [HN.out, if_neg h8]
    rw [hq]
    clear hq
    have h8' : ¬ (n : Int) < 8 := by omega
    have hu := unkey_lt 8 HB.out.lt (by rw [HN.out]; omega)
    generalize hQ : (if okN (unkeyB (bs.take 8)) then some (ofN (unkeyB (bs.take 8)), bs.drop 8) else none) = q
    have HQ := hid hQ
    clear hQ
    rcases HB.out.row with h0 | ⟨b, o, rfl, hbl, hcl⟩
    · have := HN.out; rw [h0] at this; simp at this; omega
    have HC := hid hcl
    clear hcl
    go_enter Tryz.func94, Tryz.ntmps94
    go_upto_region 12 with fail
    generalize hW0 : World.alloc _ _ = w0 at *
    have hA : Below w.heap.size w w0 := by rw [← hW0]; (repeat (first | with_reducible exact Below.refl _ _ | ((with_reducible refine Below.alloc1 ?_ ?_ _); (· first | omega | (simp; done) | (simp; omega))) | (with_reducible refine Below.drew ?_) | (with_reducible refine below_drewN' ?_ _) | ((with_reducible refine Below.setCell1 ?_ ?_ _); (· first | omega | (simp; done) | (simp; omega))) | ((with_reducible refine Below.after (by assumption) ?_ ?_); (· first | omega | (simp; done) | (simp; omega)))))
    have hz0 : w.heap.size + 1 < w0.heap.size := by rw [← hW0]; simp
    have hz1 : w.heap.size < w0.heap.size := by omega
    have r0 : w0.heap[w.heap.size]? = some (.cells #[.int .i64 0, .int .i64 0, .float .f64 0, .slice none 0 0, .bool false] 122 (0, 0)) := by
      rw [← hW0]
      exact ((World.grownBy_alloc _ _ none).block _ (by simp) (by simp)).trans (heap_alloc_new w _)
    have v0 : w0.heap[w.heap.size + 1]? = some (.cells #[.int .i64 2, .int .i64 0, .float .f64 0, .slice none 0 0, .bool false] 122 (0, 0)) := by
      rw [← hW0]
      have := heap_alloc_new (w.alloc (.cells #[.int .i64 0, .int .i64 0, .float .f64 0, .slice none 0 0, .bool false] 122)) (.cells #[.int .i64 2, .int .i64 0, .float .f64 0, .slice none 0 0, .bool false] 122)
      simpa using this
    have R0 := hid r0; have V0 := hid v0
    clear hW0 r0 v0
    go_loopw [9, 10] (fun t9 t10 wr => ∃ i : Nat, t9 = .int .u64 ((unkeyB (bs.take i) : Nat) : Int) ∧ t10 = .int .i64 (i : Nat) ∧ i ≤ 8 ∧ wr = w0) (fun _ t10 _ => 8 - (intOf t10).toNat)
    case atStart => exact ⟨0, by simp [unkeyB], rfl, by omega, rfl⟩
    case round =>
      obtain ⟨i, rfl, rfl, hi, rfl⟩ := hrel
      by_cases hlt : i < 8
      · have hlt' : (i : Int) < 8 := by omega
        have hil : i < bs.length := by rw [HN.out]; omega
        have k0 := (hA.cell (p := ⟨b, o + i, none⟩) hbl).trans (HC.out i hil)
        have hy : bs[i]? = some (bs[i]?.getD 0) := by rw [List.getElem?_eq_getElem hil]; rfl
        have hyb := HB.out.lt _ (List.mem_of_getElem? hy)
        generalize bs[i]?.getD 0 = y at *
        have hs := unkey_take hy
        have hor := add_key hlt (unkey_lt i HB.out.lt (by omega)) hyb
        rw [← hs] at hor
        have hin : (i : Int) < (n : Int) := by omega
        clear hs hy
        generalize unkeyB (bs.take i) = u at *
        go_wp2_with fail
        go_roundw
        case rel => exact ⟨i + 1, by simp, by go_num, by omega, by first | rfl | trivial⟩
        case measure => simp [intOf]; omega
      · obtain rfl : i = 8 := by omega
        have hQ := HQ.out
        clear HQ
        generalize unkeyB (bs.take 8) = u at *
        cases hk : okN u with
        | true =>
          rw [hk, if_pos rfl] at hQ
          subst hQ
          have HI := isCodeN_any u hu wr
          rw [hk] at HI
          have HO := ofOk_any u hk wr
          generalize ofN u = x at *
          obtain ⟨z0, z1, z2, z3, z4⟩ := box5 V0.out
          have zf : ∀ j, wr.frozen? ⟨w.heap.size + 1, j, none⟩ = false := fun j => by simp [World.frozen?, V0.out]
          obtain ⟨h5, g5⟩ := set1R (i := 2) V0.out (.float .f64 x)
          have hr5 := (g5.block _ hz1 (fun e => by have := Option.some.inj e; omega)).trans R0.out
          have hA5 := hA.grown g5 (by omega) (fun k hk => by cases hk; omega)
          have R5 := hid hr5; have V5 := hid h5; have HA5 := hid hA5
          clear h5 g5 hr5 hA5
          go_upto_region 18 with (first | (go_at_call 90; (with_reducible refine (HI).mono ?_); rintro e w' ⟨rfl, rfl⟩) | (go_at_call 82; (with_reducible refine (HO).mono ?_); rintro e w' ⟨rfl, rfl⟩))
          generalize wr.setCell ⟨w.heap.size + 1, 2, none⟩ (.float .f64 x) = w5 at *
          clear z0 z1 z2 z3 z4 zf HI HO
          obtain ⟨z0, z1, z2, z3, z4⟩ := box5 V5.out
          obtain ⟨y0, y1, y2, y3, y4⟩ := box5 R5.out
          have zf : ∀ j, w5.frozen? ⟨w.heap.size, j, none⟩ = false := fun j => by simp [World.frozen?, R5.out]
          have hs9 := set5 R5.out (.int .i64 2) (.int .i64 0) (.float .f64 x) (.slice none 0 0) (.bool false)
          have HR := hid (HA5.out.grown hs9.2 HA5.out.size (fun k hk => by cases hk; omega))
          clear hs9
          go_wp2_with fail
          refine bodyPost_ret (v := .tuple #[.agg #[.int .i64 2, .int .i64 0, .float .f64 x, .slice none 0 0, .bool false], .int .i64 8]) (by simp [results, Tryz.results94, go_sem, *]) rfl ⟨HR.out, rfl⟩
        | false =>
          rw [hk, if_neg (by decide)] at hQ
          subst hQ
          have HI := isCodeN_any u hu wr
          rw [hk] at HI
          obtain ⟨z0, z1, z2, z3, z4⟩ := box5 V0.out
          obtain ⟨y0, y1, y2, y3, y4⟩ := box5 R0.out
          have zf : ∀ j, wr.frozen? ⟨w.heap.size, j, none⟩ = false := fun j => by simp [World.frozen?, R0.out]
          have hs9 := set5 R0.out (.int .i64 2) (.int .i64 0) (.float .f64 0) (.slice none 0 0) (.bool false)
          have HR := hid (hA.grown hs9.2 (by omega) (fun k hk => by cases hk; omega))
          clear hs9
          go_wp2_with (go_at_call 90; (with_reducible refine (HI).mono ?_); rintro e w' ⟨rfl, rfl⟩)
          refine bodyPost_ret (v := .tuple #[.agg #[.int .i64 2, .int .i64 0, .float .f64 0, .slice none 0 0, .bool false], .int .i64 0]) (by simp [results, Tryz.results94, go_sem, *]) rfl ⟨HR.out, rfl⟩
end Go.Proofs.YtgpkfgeflcdbcaaGreat.P
