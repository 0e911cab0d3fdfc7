/- The document's table of layer 9: Put at a new number. -/
import Derived.Test.YtnlaepogkepnhaaR09p
namespace Go.Proofs.Ytnlaepogkepnhaa
set_option linter.unusedVariables false
open Go.RowKit Fl

/-- Who has another key. -/
def rest (kb : Nat) (ms : List ItV) : List ItV := ms.filter fun x => !decide (codeOf x.k.bits = codeOf kb)
theorem rest_snoc (kb : Nat) {ms : List ItV} {t : Nat} {x : ItV} (hx : ms[t]? = some x) : rest kb (ms.take (t + 1)) = rest kb (ms.take t) ++ (if decide (codeOf x.k.bits = codeOf kb) = true then [] else [x]) := by
  unfold rest
  rw [List.take_add_one, hx, List.filter_append]
  congr 1
  by_cases h : codeOf x.k.bits = codeOf kb <;> simp [h]
theorem restle (kb : Nat) (ms : List ItV) (i : Nat) : (rest kb (ms.take i)).length ≤ ms.length := Nat.le_trans (List.length_filter_le _ _) (by rw [List.length_take]; omega)

def MRet2 (w : World) (most : Int) (ms : List ItV) (cd : Int) (e : Ending) (w' : World) : Prop :=
  ∃ a c, e = .returned (.tuple #[.agg #[.int .i64 most, .slice a ms.length c], .int .i64 cd]) ∧ w'.ownsRow w.heap.size 55 2 (.slice a ms.length c) ms.length (itCells ms) ∧ Below w.heap.size w w'

set_option maxRecDepth 100000 in
theorem refPut_new (most n : Int) (a : Option Addr) (c kb : Nat) (ms : List ItV) (w : World) (hm : MAt w a ms) (hk : kb < 2 ^ 64)
    (hnan : isNaN kb = false) (h1 : 1 ≤ n) (h2 : n ≤ 1099511627776) (h3 : atR ms kb < n) (h4 : (atR ms kb = 0 ∧ (ms.length : Int) < most) ∨ (atR ms kb == 0) = false) :
    Calls Try.prog 20 #[.agg #[.int .i64 most, .slice a ms.length c], .float .f64 kb, .int .i64 n] w (MRet2 w most (rest kb ms ++ [⟨kof kb, n⟩]) 0) := by
  obtain ⟨l, hl0⟩ : ∃ l, ms.length = l := ⟨_, rfl⟩
  have HA := fun W (hb : Below w.heap.size w W) => refAt_any most a c ms kb W (hm.below hb) hk
  have HM := hid hm
  have hl := hm.len
  have hs := fun i => restle kb ms i
  rw [hl0] at hl hs h4 HA ⊢
  have HN := hid hl0
  have HT : Hid (ms.take l = ms) := hid (by rw [← hl0]; exact List.take_length)
  clear hm hl0
  generalize atR ms kb = v at *
  have HCo : ∀ W, Calls Try.prog 59 #[.float .f64 kb] W fun e w' => e = .returned (.int .u64 (kcode (kof kb))) ∧ W = w' := fun W => by
    have := refCode_any kb hk W
    rwa [show codeOf kb = kcode (kof kb) by simp [codeOf, hnan]] at this
  rcases h4 with ⟨rfl, h5⟩ | h5
  all_goals
    go_enter Try.func20, Try.ntmps20
    go_wp2_with (first | (go_at_call 56; (with_reducible refine (refNan_any _ hk _).mono ?_); rintro e w' ⟨rfl, rfl⟩) | (go_at_call 21; (with_reducible refine (HA _ (by (repeat (first | with_reducible exact Below.refl _ _ | ((with_reducible refine Below.alloc1 ?_ ?_ _); (· first | omega | (simp; done) | (simp; omega))) | (with_reducible refine Below.drew ?_) | (with_reducible refine below_drewN' ?_ _) | ((with_reducible refine Below.setCell1 ?_ ?_ _); (· first | omega | (simp; done) | (simp; omega))) | ((with_reducible refine Below.after (by assumption) ?_ ?_); (· first | omega | (simp; done) | (simp; omega))))))).mono ?_); rintro e w1 ⟨rfl, hb1⟩; obtain ⟨hc1, hf1⟩ := bcell hb1; (try simp only [World.heap_drewN, World.cell?_drewN, World.frozen?_drewN] at hc1 hf1); have hz1 := hb1.size; (try simp at hz1); (try have hy1_0 : w.heap.size < w1.heap.size := by omega); (try have hy1_1 : w.heap.size + 1 < w1.heap.size := by omega); (try have hy1_2 : w.heap.size + 2 < w1.heap.size := by omega); (try have hy1_3 : w.heap.size + 3 < w1.heap.size := by omega); (try have hx1_0 : w.heap.size ≤ w1.heap.size := by omega); (try have hx1_1 : w.heap.size + 1 ≤ w1.heap.size := by omega); (try have hx1_2 : w.heap.size + 2 ≤ w1.heap.size := by omega)))
    have hB0 : Below w.heap.size w w1 := by (repeat (first | with_reducible exact Below.refl _ _ | ((with_reducible refine Below.alloc1 ?_ ?_ _); (· first | omega | (simp; done) | (simp; omega))) | (with_reducible refine Below.drew ?_) | (with_reducible refine below_drewN' ?_ _) | ((with_reducible refine Below.setCell1 ?_ ?_ _); (· first | omega | (simp; done) | (simp; omega))) | ((with_reducible refine Below.after (by assumption) ?_ ?_); (· first | omega | (simp; done) | (simp; omega)))))
    have s0 : w1.cell? ⟨w.heap.size, 0, none⟩ = some (.int .i64 most) := by rw [hc1 _ _ (by simp; try omega)]; simp [go_sem]
    have s1 : w1.cell? ⟨w.heap.size, 1, none⟩ = some (.slice a l c) := by rw [hc1 _ _ (by simp; try omega)]; simp [go_sem]
    have s2 : w1.cell? ⟨w.heap.size + 1, 0, none⟩ = some (.int .i64 0) := by rw [hc1 _ _ (by simp; try omega)]; simp [go_sem]
    have s3 : w1.cell? ⟨w.heap.size + 1, 1, none⟩ = some (.slice none 0 0) := by rw [hc1 _ _ (by simp; try omega)]; simp [go_sem]
    have s4 : w1.frozen? ⟨w.heap.size, 1, none⟩ = false := by rw [hf1 _ _ (by simp; try omega)]; simp [go_sem]
    have s5 : w1.frozen? ⟨w.heap.size + 1, 0, none⟩ = false := by rw [hf1 _ _ (by simp; try omega)]; simp [go_sem]
    have s6 : w1.frozen? ⟨w.heap.size + 1, 1, none⟩ = false := by rw [hf1 _ _ (by simp; try omega)]; simp [go_sem]
    have hy1 : w.heap.size + 1 < w1.heap.size := by omega
    have hy0 : w.heap.size < w1.heap.size := by omega
    have hown0 : (w1.alloc (.cells #[] 55)).ownsRow w1.heap.size 55 2 (.slice (some ⟨w1.heap.size, 0, none⟩) 0 0) 0 [] :=
      ⟨rfl, .inr ⟨w1.heap.size, 0, #[], rfl, Nat.le_refl _, heap_alloc_new w1 _, Nat.le_refl _, by unfold maxLen; omega, rfl, rfl⟩⟩
    have h00 : Below w1.heap.size w1 (w1.alloc (.cells #[] 55)) := by (repeat (first | with_reducible exact Below.refl _ _ | ((with_reducible refine Below.alloc1 ?_ ?_ _); (· first | omega | (simp; done) | (simp; omega))) | (with_reducible refine Below.drew ?_) | (with_reducible refine below_drewN' ?_ _) | ((with_reducible refine Below.setCell1 ?_ ?_ _); (· first | omega | (simp; done) | (simp; omega))) | ((with_reducible refine Below.after (by assumption) ?_ ?_); (· first | omega | (simp; done) | (simp; omega)))))
    have H0 := hid hown0
    clear hown0 hc1 hf1 hb1
    go_loopw [10, 9] (fun iv uv wr => ∃ (i : Nat) (u : Option Addr) (cu : Nat), i ≤ l ∧ iv = .int .i64 i ∧ uv = .slice u (rest kb (ms.take i)).length cu ∧ Hid (wr.ownsRow w1.heap.size 55 2 (.slice u (rest kb (ms.take i)).length cu) (rest kb (ms.take i)).length (itCells (rest kb (ms.take i)))) ∧ Below w1.heap.size w1 wr) (fun iv _ _ => l - (intOf iv).toNat)
    case atStart => exact ⟨0, some ⟨w1.heap.size, 0, none⟩, 0, Nat.zero_le _, rfl, rfl, H0, h00⟩
    case round =>
      obtain ⟨i, u, cu, hin, rfl, rfl, HO, hb⟩ := hrel
      have hz := hb.size
      have e0 := (hb.cell (p := ⟨w.heap.size, 0, none⟩) hy0).trans s0
      have e1 := (hb.cell (p := ⟨w.heap.size, 1, none⟩) hy0).trans s1
      have e2 := (hb.cell (p := ⟨w.heap.size + 1, 0, none⟩) hy1).trans s2
      have e3 := (hb.cell (p := ⟨w.heap.size + 1, 1, none⟩) hy1).trans s3
      have e4 := (hb.frozen (p := ⟨w.heap.size, 1, none⟩) hy0).trans s4
      have e5 := (hb.frozen (p := ⟨w.heap.size + 1, 0, none⟩) hy1).trans s5
      have e6 := (hb.frozen (p := ⟨w.heap.size + 1, 1, none⟩) hy1).trans s6
      have hkl := hs i
      by_cases hlt : i < l
      · have hlt' : (i : Int) < (l : Int) := by omega
        have hil : i < ms.length := by rw [HN.out]; exact hlt
        obtain ⟨g, rfl, hg, hcs⟩ := HM.out.row (by omega)
        obtain ⟨d0, d1⟩ := hcs i hil
        have hg0 : g < w1.heap.size := by omega
        have d0 := (hb.cell (p := ⟨g, _, none⟩) hg0).trans ((hB0.cell (p := ⟨g, _, none⟩) hg).trans d0)
        have d1 := (hb.cell (p := ⟨g, _, none⟩) hg0).trans ((hB0.cell (p := ⟨g, _, none⟩) hg).trans d1)
        have hx := it_some hil
        have hsn := rest_snoc kb hx
        generalize ms[i]?.getD default = x at *
        clear hcs hil hx
        cases hq : decide (codeOf x.k.bits = codeOf kb)
        · rw [if_neg (by simp [hq])] at hsn
          have HK := hid hsn
          have HQ := hid hq
          clear hsn hq
          obtain ⟨a', c', w', hr, ho', hb'⟩ := app1 x hb HO.out hb.size (by omega)
          have HO' := hid ho'
          clear ho'
          go_wp2_with (first | (go_at_call 57; (with_reducible refine (refSame_key x.k kb hk false HQ _).mono ?_); rintro e w' ⟨rfl, rfl⟩) | (at_builtin; refine Lib.wpList_append_run _ rfl _ _ _ _ rfl _ _ rfl rfl _ _ (hr _) ?_))
          go_roundw
          case rel => exact ⟨i + 1, a', c', by omega, by go_num, by rw [HK.out, List.length_append]; rfl, hid (by rw [HK.out, List.length_append]; exact HO'.out), hb'⟩
          case measure => simp [intOf]; omega
        · rw [if_pos hq, List.append_nil] at hsn
          have HK := hid hsn
          have HQ := hid hq
          clear hsn hq
          go_wp2_with (go_at_call 57; (with_reducible refine (refSame_key x.k kb hk true HQ _).mono ?_); rintro e w' ⟨rfl, rfl⟩)
          go_roundw
          case rel => exact ⟨i + 1, u, cu, by omega, by go_num, by rw [HK.out], hid (by rw [HK.out]; exact HO.out), hb⟩
          case measure => simp [intOf]; omega
      · obtain rfl : i = l := by omega
        rw [HT.out] at HO hkl ⊢
        obtain ⟨a', c', w', hr, ho', hb'⟩ := app1 (⟨kof kb, n⟩ : ItV) hb HO.out hb.size (by omega)
        have hlen : (rest kb ms ++ [(⟨kof kb, n⟩ : ItV)]).length = (rest kb ms).length + 1 := by simp
        have hfin : ∀ W, Below w.heap.size w W → W.ownsRow w1.heap.size 55 2 (.slice a' ((rest kb ms).length + 1) c') ((rest kb ms).length + 1) (itCells (rest kb ms ++ [⟨kof kb, n⟩])) → MRet2 w most (rest kb ms ++ [⟨kof kb, n⟩]) 0 (.returned (.tuple #[.agg #[.int .i64 most, .slice a' ((rest kb ms).length + 1) c'], .int .i64 0])) W := fun W h1 h2 =>
          ⟨a', c', by rw [hlen], by rw [hlen]; exact own_le h2 (by omega), h1⟩
        have HFn := hid hfin
        have hz' := hb'.size
        have k0 := (hb'.cell (p := ⟨w.heap.size, 0, none⟩) hy0).trans s0
        have k1 := (hb'.cell (p := ⟨w.heap.size, 1, none⟩) hy0).trans s1
        have k2 := (hb'.cell (p := ⟨w.heap.size + 1, 0, none⟩) hy1).trans s2
        have k3 := (hb'.cell (p := ⟨w.heap.size + 1, 1, none⟩) hy1).trans s3
        have k4 := (hb'.frozen (p := ⟨w.heap.size, 1, none⟩) hy0).trans s4
        have k5 := (hb'.frozen (p := ⟨w.heap.size + 1, 0, none⟩) hy1).trans s5
        have k6 := (hb'.frozen (p := ⟨w.heap.size + 1, 1, none⟩) hy1).trans s6
        have hbw : Below w.heap.size w w' := hB0.trans (hb'.mono (by omega))
        have hlo := ho'.lt
        have hown3 : ∀ v1 v2 v3, (((w'.setCell ⟨w.heap.size, 1, none⟩ v1).setCell ⟨w.heap.size + 1, 0, none⟩ v2).setCell ⟨w.heap.size + 1, 1, none⟩ v3).ownsRow w1.heap.size 55 2 (.slice a' ((rest kb ms).length + 1) c') ((rest kb ms).length + 1) (itCells (rest kb ms ++ [⟨kof kb, n⟩])) := fun v1 v2 v3 =>
          ownsRow_setCell_other (ownsRow_setCell_other (ownsRow_setCell_other ho' (fun e => by have := (hlo _ e).1; simp at this; omega) _) (fun e => by have := (hlo _ e).1; simp at this; omega) _) (fun e => by have := (hlo _ e).1; simp at this; omega) _
        have HO3 := hid hown3
        have hyw0 : w.heap.size < w'.heap.size := by omega
        have hyw1 : w.heap.size + 1 < w'.heap.size := by omega
        clear hown3 hlo ho' hfin hlen
        simp only at hr
        go_wp2_with (first | (go_at_call 59; (with_reducible refine (HCo _).mono ?_); rintro e w' ⟨rfl, rfl⟩) | (go_at_call 58; (with_reducible refine (refOfCode_any _ _).mono ?_); rintro e w' ⟨rfl, rfl⟩) | (at_builtin; refine Lib.wpList_append_run _ rfl _ _ _ _ rfl _ _ rfl rfl _ _ (hr _) ?_))
        exact bodyPost_ret (v := .tuple #[.agg #[.int .i64 most, .slice a' ((rest kb ms).length + 1) c'], .int .i64 0]) (by simp [results, Try.results20, go_sem, *]) rfl (HFn.out _ (by (repeat (first | with_reducible exact Below.refl _ _ | ((with_reducible refine Below.alloc1 ?_ ?_ _); (· first | omega | (simp; done) | (simp; omega))) | (with_reducible refine Below.drew ?_) | (with_reducible refine below_drewN' ?_ _) | ((with_reducible refine Below.setCell1 ?_ ?_ _); (· first | omega | (simp; done) | (simp; omega))) | ((with_reducible refine Below.after (by assumption) ?_ ?_); (· first | omega | (simp; done) | (simp; omega)))))) (HO3.out _ _ _))
end Go.Proofs.Ytnlaepogkepnhaa
