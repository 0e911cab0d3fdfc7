/- The walk of PredsPlays. -/
import Derived.Test.YtnlaepogkepnhaaQY
import Derived.Test.YtnlaepogkepnhaaNoteM
import Derived.Deep.CutBlock
namespace Go.Proofs.Ytnlaepogkepnhaa.Q
set_option linter.unusedVariables false
set_option linter.unusedSimpArgs false
open Go.RowKit Fl

theorem refSpanK (k : RK) (w : World) : Calls Try.prog 46 #[.agg #[.int .u64 (kcode k.lo), .int .u64 (kcode k.hi)]] w (Ret (.agg #[.float .f64 k.lo.bits, .float .f64 k.hi.bits, .bool false, .bool false]) w) := refSpan_some k.lo k.hi k.le w

set_option maxHeartbeats 1000000 in
set_option maxRecDepth 100000 in
theorem predsPlays_walk (mo : Int) (a : Option Addr) (c : Nat) (ops : List OpV) (key : Nat) (w : World) (hmo : -9223372036854775808 ≤ mo ∧ mo ≤ 9223372036854775807) (ho : OAt w a ops) (hkey : key < 2 ^ 64) :
    Calls Try.prog 10 #[.int .i64 mo, .slice a ops.length c, .float .f64 key] w (Ret (.bool true) w) := by
  obtain ⟨n, hn⟩ : ∃ n, ops.length = n := ⟨_, rfl⟩
  have hmax : n ≤ 9223372036854775807 := by have := ho.len; unfold maxLen at this; omega
  have HO := hid ho
  rw [hn]
  have HN := hid hn
  clear ho hn
  have hnew := fun W hb => tab_new (w0 := w) (w := W) hb mo hmo.1 hmo.2
  have hnew2 := fun W => refNew10_any mo W
  generalize mostI mo = mI at *
  go_enter Try.func10, Try.ntmps10
  go_wp2_with fail
  with_reducible refine (hnew _ (Below.refl _ _)).mono ?_
  rintro e w1 ⟨T, rfl, hT0⟩
  have hT1 : Tab1 w w1 T mI [] := hT0
  clear hT0 hnew
  go_wp2_with (first | (go_at_call 31; (with_reducible refine (alive_any _).mono ?_); rintro e w2 ⟨rfl, hb2⟩; obtain ⟨hc2, hf2⟩ := bcell hb2; (try simp only [World.heap_drewN, World.cell?_drewN, World.frozen?_drewN] at hc2 hf2); have hz2 := hb2.size; (try simp at hz2); (try have hy2_0 : w.heap.size < w2.heap.size := by omega); (try have hy2_1 : w.heap.size + 1 < w2.heap.size := by omega); (try have hy2_2 : w.heap.size + 2 < w2.heap.size := by omega); (try have hy2_3 : w.heap.size + 3 < w2.heap.size := by omega); (try have hx2_0 : w.heap.size ≤ w2.heap.size := by omega); (try have hx2_1 : w.heap.size + 1 ≤ w2.heap.size := by omega); (try have hx2_2 : w.heap.size + 2 ≤ w2.heap.size := by omega)) | (go_at_call 40; (with_reducible refine (hnew2 _).mono ?_); rintro e w3 ⟨rfl, hb3⟩; obtain ⟨hc3, hf3⟩ := bcell hb3; (try simp only [World.heap_drewN, World.cell?_drewN, World.frozen?_drewN] at hc3 hf3); have hz3 := hb3.size; (try simp at hz3); (try have hy3_0 : w.heap.size < w3.heap.size := by omega); (try have hy3_1 : w.heap.size + 1 < w3.heap.size := by omega); (try have hy3_2 : w.heap.size + 2 < w3.heap.size := by omega); (try have hy3_3 : w.heap.size + 3 < w3.heap.size := by omega); (try have hx3_0 : w.heap.size ≤ w3.heap.size := by omega); (try have hx3_1 : w.heap.size + 1 ≤ w3.heap.size := by omega); (try have hx3_2 : w.heap.size + 2 ≤ w3.heap.size := by omega)))
  have hT3 : TabR w (w3.alloc (.cells #[.int .i64 mI, .slice none 0 0] 79)) T w3.heap.size mI [] [] none 0 := tabr_init (by first | assumption | exact Tab1.below (by assumption) (by (repeat (first | with_reducible exact Below.refl _ _ | ((with_reducible refine Below.alloc1 ?_ ?_ _); (· first | omega | (simp; done) | (simp; omega))) | (with_reducible refine Below.drew ?_) | (with_reducible refine below_drewN' ?_ _) | ((with_reducible refine Below.setCell1 ?_ ?_ _); (· first | omega | (simp; done) | (simp; omega))) | ((with_reducible refine Below.after (by assumption) ?_ ?_); (· first | omega | (simp; done) | (simp; omega)))))))
  clear hT1 hb2 hc2 hf2 hz2 hb3 hc3 hf3 hz3 hnew2
  generalize w3.heap.size = X at *
  generalize w3.alloc (.cells #[.int .i64 mI, .slice none 0 0] 79) = w4 at *
  go_loopw [30] (fun iv wr => ∃ i : Nat, i ≤ n ∧ iv = .int .i64 i ∧ ∃ (its ms : List ItV) (am : Option Addr) (cm : Nat), TabR w wr T X mI its ms am cm ∧ Hid (Same its ms)) (fun iv _ => n - (intOf iv).toNat)
  case atStart => exact ⟨0, Nat.zero_le _, rfl, [], [], none, 0, hT3, hid same_nil⟩
  case round =>
    obtain ⟨i, hin, rfl, its, ms, am, cm, hT, hS⟩ := hrel
    clear hT3
    have hs6 := hT.b.size
    by_cases hlt : i < n
    · have hlt' : (i : Int) < (n : Int) := by omega
      have hil : i < ops.length := by rw [HN.out]; exact hlt
      rcases HO.out.row with h0 | ⟨b, o, rfl, hb, hcs⟩
      · exfalso; rw [h0] at hil; simp at hil
      obtain ⟨d0, d1, d2, d3, d4, d5⟩ := hcs i hil
      have d0 := (hT.b.cell (p := ⟨b, _, none⟩) hb).trans d0
      have d1 := (hT.b.cell (p := ⟨b, _, none⟩) hb).trans d1
      have d2 := (hT.b.cell (p := ⟨b, _, none⟩) hb).trans d2
      have d3 := (hT.b.cell (p := ⟨b, _, none⟩) hb).trans d3
      have d4 := (hT.b.cell (p := ⟨b, _, none⟩) hb).trans d4
      have d5 := (hT.b.cell (p := ⟨b, _, none⟩) hb).trans d5
      obtain ⟨hk1', hk2'⟩ := HO.out.lt i hil
      generalize ops[i]?.getD default = x at *
      clear hcs hil
      go_upto_block 2 with fail
      go_cut [30] from 30 to 109 (fun iv wc => iv = .int .i64 i ∧ wc.cell? ⟨wr.heap.size, 1, none⟩ = some (.float .f64 x.lo) ∧ ∃ (its' ms' : List ItV) (am' : Option Addr) (cm' : Nat), TabR w wc T X mI its' ms' am' cm' ∧ Hid (Same its' ms'))
      case first =>
        by_cases hk1 : x.kind = 1
        · have hg : (x.kind == 1) = true := by simpa using hk1
          obtain ⟨cd, its', hput⟩ : ∃ cd its', putI its mI x.rg x.n = (cd, its') := ⟨_, _, rfl⟩
          have hsp := same_put hS.out mI hT.le x.rg x.ok x.n
          have hml : (refPutI ms mI x.rg x.n).2.length ≤ 64 := by
            have h1 := same_len hsp.2
            have h2 := putI_le hT.le x.rg x.n
            have h3 := hT.m64
            omega
          obtain ⟨rd, ms', hrp⟩ : ∃ cd its', refPutI ms mI x.rg x.n = (cd, its') := ⟨_, _, rfl⟩
          rw [hput, hrp] at hsp
          rw [hrp] at hml
          obtain ⟨hcd, hS'⟩ := hsp
          simp only at hcd hS' hml
          subst hcd
          have Hput : Hid (putI its mI (canonS x.lo x.hi x.a x.b) x.n = (rd, its')) := hid hput
          have Hrp : Hid (refPutI ms mI (canonS x.lo x.hi x.a x.b) x.n = (rd, ms')) := hid hrp
          have HS' := hid hS'
          clear hput hrp hS'
          go_wp2_with fail
          with_reducible refine (tabr_put (its' := its') hT (by (repeat (first | with_reducible exact Below.refl _ _ | ((with_reducible refine Below.alloc1 ?_ ?_ _); (· first | omega | (simp; done) | (simp; omega))) | (with_reducible refine Below.drew ?_) | (with_reducible refine below_drewN' ?_ _) | ((with_reducible refine Below.setCell1 ?_ ?_ _); (· first | omega | (simp; done) | (simp; omega))) | ((with_reducible refine Below.after (by assumption) ?_ ?_); (· first | omega | (simp; done) | (simp; omega)))))) x.lo x.hi x.a x.b x.n rd hk1' hk2' Hput).mono ?_
          rintro e w5 ⟨rfl, hT5, hz5, hk5⟩
          have q1 : w5.cell? ⟨wr.heap.size, 1, none⟩ = some (.float .f64 x.lo) := by
            rw [hk5 _ (Nat.le_refl _) (by simp)]; simp [go_sem]
          have q2 : w5.cell? ⟨wr.heap.size, 2, none⟩ = some (.float .f64 x.hi) := by
            rw [hk5 _ (Nat.le_refl _) (by simp)]; simp [go_sem]
          have q3 : w5.cell? ⟨wr.heap.size, 3, none⟩ = some (.bool x.a) := by
            rw [hk5 _ (Nat.le_refl _) (by simp)]; simp [go_sem]
          have q4 : w5.cell? ⟨wr.heap.size, 4, none⟩ = some (.bool x.b) := by
            rw [hk5 _ (Nat.le_refl _) (by simp)]; simp [go_sem]
          have q5 : w5.cell? ⟨wr.heap.size, 5, none⟩ = some (.int .i64 x.n) := by
            rw [hk5 _ (Nat.le_refl _) (by simp)]; simp [go_sem]
          simp at hz5
          have hy5 : wr.heap.size < w5.heap.size := by omega
          have x0 := hT5.c0
          have x1 := hT5.c1
          have hxl := hT5.xlt
          have hf0 := hT5.fz 0
          have hf1 := hT5.fz 1
          have href := refPut_any mI x.n am cm x.lo x.hi x.a x.b ms w5 hT5.mat hk1' hk2'
          unfold RefPutPost at href
          rw [Hrp.out] at href
          simp only at href
          have HREF := hid href
          clear href hk5
          go_wp2_with fail
          with_reducible refine (HREF.out).mono ?_
          rintro e w6 ⟨hb6, am', cm', rfl, hown⟩
          clear HREF
          have hz6 := hb6.size
          have hy6' : wr.heap.size < w6.heap.size := by omega
          have hxl6 : X < w6.heap.size := by omega
          have r1 := (hb6.cell (p := ⟨wr.heap.size, 1, none⟩) hy5).trans q1
          have y0 := (hb6.cell (p := ⟨X, 0, none⟩) hxl).trans x0
          have y1 := (hb6.cell (p := ⟨X, 1, none⟩) hxl).trans x1
          have g0 := (hb6.frozen (p := ⟨X, 0, none⟩) hxl).trans hf0
          have g1 := (hb6.frozen (p := ⟨X, 1, none⟩) hxl).trans hf1
          have hXne : wr.heap.size ≠ X := by have := hT.xlt; omega
          have hT7 := tabr_box (w := w6) hT5 hb6 hml hown
          have z1 : ((w6.setCell ⟨X, 0, none⟩ (.int .i64 mI)).setCell ⟨X, 1, none⟩ (.slice am' ms'.length cm')).cell? ⟨wr.heap.size, 1, none⟩ = some (.float .f64 x.lo) := by simp [go_sem, *]
          have hfin : ∀ W, Below ((w6.setCell ⟨X, 0, none⟩ (.int .i64 mI)).setCell ⟨X, 1, none⟩ (.slice am' ms'.length cm')).heap.size ((w6.setCell ⟨X, 0, none⟩ (.int .i64 mI)).setCell ⟨X, 1, none⟩ (.slice am' ms'.length cm')) W → W.cell? ⟨wr.heap.size, 1, none⟩ = some (.float .f64 x.lo) ∧ TabR w W T X mI its' ms' am' cm' := fun W hW =>
            ⟨(hW.cell (p := ⟨wr.heap.size, 1, none⟩) (World.block_lt_of_cell? _ _ z1)).trans z1, hT7.below hW⟩
          have HF7 := hid hfin
          have HO2 := hid hown
          clear hT7 hown hfin z1
          go_wp2_with fail
          go_meet
          case rel =>
            exact ⟨rfl, (HF7.out _ (Below.alloc1 (Nat.le_refl _) (Below.refl _ _) _)).1, its', ms', am', cm', (HF7.out _ (Below.alloc1 (Nat.le_refl _) (Below.refl _ _) _)).2, HS'⟩
        · have hg1 : (x.kind == 1) = false := by simpa using hk1
          by_cases hk2 : x.kind = 2
          · have hg2 : (x.kind == 2) = true := by simpa using hk2
            have x0 := hT.c0
            have x1 := hT.c1
            have hxl := hT.xlt
            have hf0 := hT.fz 0
            have hf1 := hT.fz 1
            have hXne : wr.heap.size ≠ X := by omega
            obtain ⟨its', hits⟩ : ∃ l, kept x.n its = l := ⟨_, rfl⟩
            obtain ⟨ms', hms⟩ : ∃ l, kept x.n ms = l := ⟨_, rfl⟩
            have hsd := same_drop hS.out x.n
            have hml : (kept x.n ms).length ≤ 64 := by
              have h1 := kept_length_le x.n ms
              have h2 := hT.mlen
              omega
            have hcnt : (its.length : Int) - its'.length = (ms.length : Int) - ms'.length := by
              rw [← hits, ← hms, same_len hS.out, same_len hsd]
            have hdrop := fun W h => refDrop_any mI x.n am cm ms W h
            rw [hits, hms] at hsd
            rw [hms] at hml hdrop
            have Hits := hid hits
            have HS' := hid hsd
            have Hcnt := hid hcnt
            clear hits hms hsd hcnt
            go_wp2_with fail
            with_reducible refine (hdrop _ (hT.mat.below (by (repeat (first | with_reducible exact Below.refl _ _ | ((with_reducible refine Below.alloc1 ?_ ?_ _); (· first | omega | (simp; done) | (simp; omega))) | (with_reducible refine Below.drew ?_) | (with_reducible refine below_drewN' ?_ _) | ((with_reducible refine Below.setCell1 ?_ ?_ _); (· first | omega | (simp; done) | (simp; omega))) | ((with_reducible refine Below.after (by assumption) ?_ ?_); (· first | omega | (simp; done) | (simp; omega)))))))).mono ?_
            rintro e w6 ⟨am', cm', rfl, hown, hb6⟩
            clear hdrop
            have hz6 := hb6.size
            simp at hz6
            have r2 : w6.cell? ⟨wr.heap.size, 5, none⟩ = some (.int .i64 x.n) := (hb6.cell (p := ⟨wr.heap.size, 5, none⟩) (by simp)).trans (by simp [go_sem])
            have r3 : w6.cell? ⟨wr.heap.size, 1, none⟩ = some (.float .f64 x.lo) := (hb6.cell (p := ⟨wr.heap.size, 1, none⟩) (by simp)).trans (by simp [go_sem])
            have y0 := (hb6.cell (p := ⟨X, 0, none⟩) (by simp; omega)).trans (by simp [go_sem, *] : _ = some (.int .i64 mI))
            have y1 := (hb6.cell (p := ⟨X, 1, none⟩) (by simp; omega)).trans (by simp [go_sem, *] : _ = some (.slice am ms.length cm))
            have g0 := (hb6.frozen (p := ⟨X, 0, none⟩) (by simp; omega)).trans (by simp [go_sem, *] : _ = false)
            have g1 := (hb6.frozen (p := ⟨X, 1, none⟩) (by simp; omega)).trans (by simp [go_sem, *] : _ = false)
            have hb6' : Below wr.heap.size wr w6 := by (repeat (first | with_reducible exact Below.refl _ _ | ((with_reducible refine Below.alloc1 ?_ ?_ _); (· first | omega | (simp; done) | (simp; omega))) | (with_reducible refine Below.drew ?_) | (with_reducible refine below_drewN' ?_ _) | ((with_reducible refine Below.setCell1 ?_ ?_ _); (· first | omega | (simp; done) | (simp; omega))) | ((with_reducible refine Below.after (by assumption) ?_ ?_); (· first | omega | (simp; done) | (simp; omega)))))
            have hxl6 : X < w6.heap.size := by omega
            have hT7 := tabr_box hT hb6' hml (.inr (own_le hown (by simp)))
            have hblk : w6.heap[T]? = wr.heap[T]? := hb6'.block T hT.one.lt
            have HT7 := hid hT7
            have HO2 := hid hown
            have HB6 := hid hb6'
            clear hT7 hown hb6 hb6'
            go_upto_region 18 with fail
            have hT7 := HT7.out
            have hml0 := hT.mlen
            obtain ⟨d, D1⟩ : ∃ d : Int, Hid ((its.length : Int) - its'.length = d) := ⟨_, hid rfl⟩
            have D2 : Hid ((ms.length : Int) - ms'.length = d) := hid (by rw [← Hcnt.out, D1.out])
            have z2 : ((w6.setCell ⟨X, 0, none⟩ (.int .i64 mI)).setCell ⟨X, 1, none⟩ (.slice am' ms'.length cm')).cell? ⟨wr.heap.size, 5, none⟩ = some (.int .i64 x.n) := by simp [go_sem, *]
            have z5 : ((w6.setCell ⟨X, 0, none⟩ (.int .i64 mI)).setCell ⟨X, 1, none⟩ (.slice am' ms'.length cm')).cell? ⟨wr.heap.size, 1, none⟩ = some (.float .f64 x.lo) := by simp [go_sem, *]
            have z3 : ((w6.setCell ⟨X, 0, none⟩ (.int .i64 mI)).setCell ⟨X, 1, none⟩ (.slice am' ms'.length cm')).heap[T]? = wr.heap[T]? := by
              rw [Below.heap_setCell _ _ _ _ hT.ne, Below.heap_setCell _ _ _ _ hT.ne]; exact hblk
            have z4 : wr.heap.size ≤ ((w6.setCell ⟨X, 0, none⟩ (.int .i64 mI)).setCell ⟨X, 1, none⟩ (.slice am' ms'.length cm')).heap.size := by simp; omega
            generalize (w6.setCell ⟨X, 0, none⟩ (.int .i64 mI)).setCell ⟨X, 1, none⟩ (.slice am' ms'.length cm') = w7 at *
            clear HT7 HO2 HB6 r2 r3 y0 y1 g0 g1 x0 x1 hf0 hf1 hblk hz6 hxl6
            refine wp_region_mover (fun i => [Value.pointer (some ⟨T, 0, none⟩), .pointer (some ⟨wr.heap.size, 5, none⟩), .int .i64 x.n, .int .i64 d, .int .i64 ms.length, .pointer (some ⟨X, 1, none⟩), .slice am' ms'.length cm', .int .i64 ms'.length, .int .i64 d, .bool false].getD i undef)
              (fun b y => y.cell? ⟨wr.heap.size, 5, none⟩ = some (.int .i64 x.n) ∧ y.cell? ⟨wr.heap.size, 1, none⟩ = some (.float .f64 x.lo) ∧ TabR w y T X mI (if b then its' else its) ms' am' cm' ∧ (b = false → Below w7.heap.size w7 y)) 3 rfl (by kernel_rfl) (by kernel_rfl) ?_ ?_ ?_
            · exact ⟨z2, z5, hT7.below (Below.drew (Below.refl _ w7)), fun _ => Below.drew (Below.refl _ w7)⟩
            · simp only [List.length_cons, List.length_nil, Nat.reduceAdd, List.take_succ_cons, List.take_zero, StepsM, List.nil_append, List.cons_append]
              refine ⟨?_, ?_, ?_, ?mv, ?_, ?_, ?_, ?_, ?_, ?_, trivial⟩
              case mv =>
                intro bb y hy hm
                obtain rfl : bb = false := hm rfl
                obtain ⟨hy1, hy1', hy2, hy3⟩ := hy
                simp only [Bool.false_eq_true, if_false] at hy2
                have hy3 := hy3 rfl
                have hsz : wr.heap.size ≤ y.heap.size := Nat.le_trans z4 hy3.size
                have hy4 : y.heap[T]? = wr.heap[T]? := (hy3.block T hT7.one.lt).trans z3
                have hyo := World.block_lt_of_cell? _ _ hy1
                have Hy1 := hid hy1
                have Hy1' := hid hy1'
                clear hy1 hy1'
                generalize hR : (fun v w' => v = _ ∧ _) = R
                have HR := hid hR
                clear hR
                simp only [putsFrom, Act.put, List.setIfInBounds_toArray, List.set_cons_zero, List.set_cons_succ, Nat.zero_add, Nat.reduceAdd, List.length_cons, List.length_nil, List.getD_cons_zero, List.getD_cons_succ]
                go_wp2_with fail
                with_reducible refine (tabr_drop2 (its' := its') hT hy2 hsz hy4 _ d Hits D1).mono ?_
                rintro e w8 ⟨rfl, h1, h2⟩
                go_wp2_with fail
                have hR := HR.out
                subst hR
                exact ⟨rfl, rfl, (h2.2 _ (Nat.le_refl _) hyo).trans Hy1.out, (h2.2 _ (Nat.le_refl _) hyo).trans Hy1'.out, h1, fun h => by cases h⟩
              all_goals
                intro bb y hy hm
                obtain ⟨hy1, hy1', hy2, hy3⟩ := hy
                have hyc := hy2.c1
                have hyl := hy2.xlt
                have hyo := World.block_lt_of_cell? _ _ hy1
                have Hy2 := hid hy2
                have Hy3 := hid hy3
                clear hy2 hy3 hm
                generalize hR : (fun v w' => v = _ ∧ _) = R
                have HR := hid hR
                clear hR
                try simp only [putsFrom, Act.put, List.setIfInBounds_toArray, List.set_cons_zero, List.set_cons_succ, Nat.zero_add, Nat.reduceAdd, List.length_cons, List.length_nil, List.getD_cons_zero, List.getD_cons_succ]
                go_wp2_with fail
                have hR := HR.out
                subst hR
                first | exact ⟨rfl, rfl, hy1, hy1', by simpa using Hy2.out, by simpa using Hy3.out⟩ | exact ⟨rfl, congrArg _ D2.out, hy1, hy1', by simpa using Hy2.out, by simpa using Hy3.out⟩ | trace_state
            · intro y hy
              obtain ⟨hy1, hy1', hy2, -⟩ := hy
              simp only [putsFrom, Act.put, List.setIfInBounds_toArray, List.set_cons_zero, List.set_cons_succ, Nat.zero_add, Nat.reduceAdd, List.getD_cons_zero, List.getD_cons_succ]
              go_wp2_with fail
              go_meet
              case rel => exact ⟨rfl, hy1', its', ms', am', cm', hy2, HS'⟩
          · have hg2 : (x.kind == 2) = false := by simpa using hk2
            by_cases hk3 : x.kind = 3
            · have hg3 : (x.kind == 3) = true := by simpa using hk3
              go_wp2_with fail
              with_reducible refine (tabr_clear hT (by (repeat (first | with_reducible exact Below.refl _ _ | ((with_reducible refine Below.alloc1 ?_ ?_ _); (· first | omega | (simp; done) | (simp; omega))) | (with_reducible refine Below.drew ?_) | (with_reducible refine below_drewN' ?_ _) | ((with_reducible refine Below.setCell1 ?_ ?_ _); (· first | omega | (simp; done) | (simp; omega))) | ((with_reducible refine Below.after (by assumption) ?_ ?_); (· first | omega | (simp; done) | (simp; omega))))))).mono ?_
              rintro e w5 ⟨rfl, hT5, hk5⟩
              have z1 : w5.cell? ⟨wr.heap.size, 1, none⟩ = some (.float .f64 x.lo) := by
                rw [hk5.2 _ (Nat.le_refl _) (by simp)]; simp [go_sem]
              have hXne : wr.heap.size ≠ X := by have := hT.xlt; omega
              clear hk5
              have x1 := hT5.c1
              have hxl := hT5.xlt
              have hf1 := hT5.fz 1
              have hT6 := hid (tabr_nil hT5)
              clear hT5
              go_wp2_with fail
              go_meet
              case rel => exact ⟨rfl, by simp [go_sem, *], [], [], none, 0, hT6.out, hid same_nil⟩
            · have hg3 : (x.kind == 3) = false := by simpa using hk3
              go_wp2_with fail
              go_meet
              case rel => exact ⟨rfl, by simp [go_sem], its, ms, am, cm, hT.below (by (repeat (first | with_reducible exact Below.refl _ _ | ((with_reducible refine Below.alloc1 ?_ ?_ _); (· first | omega | (simp; done) | (simp; omega))) | (with_reducible refine Below.drew ?_) | (with_reducible refine below_drewN' ?_ _) | ((with_reducible refine Below.setCell1 ?_ ?_ _); (· first | omega | (simp; done) | (simp; omega))) | ((with_reducible refine Below.after (by assumption) ?_ ?_); (· first | omega | (simp; done) | (simp; omega)))))), hS⟩
      case rest =>
        obtain ⟨rfl, hbx, its', ms', am', cm', hT', hS'⟩ := hcut
        have hyb := World.block_lt_of_cell? _ _ hbx
        have x0 := hT'.c0
        have x1 := hT'.c1
        have hxl := hT'.xlt
        obtain ⟨v1, V1⟩ : ∃ v, Hid (atI its' key = v) := ⟨_, hid rfl⟩
        have V2 : Hid (atI ms' key = v1) := hid (by rw [same_at hS'.out, V1.out])
        obtain ⟨v2, V3⟩ : ∃ v, Hid (atI its' x.lo = v) := ⟨_, hid rfl⟩
        have V4 : Hid (atI ms' x.lo = v2) := hid (by rw [same_at hS'.out, V3.out])
        have V5 : Hid ((its'.length : Int) = (ms'.length : Int)) := hid (by rw [same_len hS'.out])
        clear d0 d1 d2 d3 d4 d5 hs6 hT
        go_upto_region 23 with fail
        (refine wp_region_ext (by kernel_rfl) (by kernel_rfl) ?_; (repeat (go_big_quiet_step (first | (go_at_call 35; with_reducible exact Calls.ext_of (tab_len (TabR.one (TabR.below (TabR.below hT' (by (repeat (first | with_reducible exact Below.refl _ _ | ((with_reducible refine Below.alloc1 ?_ ?_ _); (· first | omega | (simp; done) | (simp; omega))) | (with_reducible refine Below.drew ?_) | (with_reducible refine below_drewN' ?_ _) | ((with_reducible refine Below.setCell1 ?_ ?_ _); (· first | omega | (simp; done) | (simp; omega))) | ((with_reducible refine Below.after (by assumption) ?_ ?_); (· first | omega | (simp; done) | (simp; omega))))))) (Ext.b _))) _ V5)) | (go_at_call 32; with_reducible exact Calls.ext_of (tab_at (TabR.one (TabR.below (TabR.below hT' (by (repeat (first | with_reducible exact Below.refl _ _ | ((with_reducible refine Below.alloc1 ?_ ?_ _); (· first | omega | (simp; done) | (simp; omega))) | (with_reducible refine Below.drew ?_) | (with_reducible refine below_drewN' ?_ _) | ((with_reducible refine Below.setCell1 ?_ ?_ _); (· first | omega | (simp; done) | (simp; omega))) | ((with_reducible refine Below.after (by assumption) ?_ ?_); (· first | omega | (simp; done) | (simp; omega))))))) (Ext.b _))) key v1 hkey V1)) | (go_at_call 44; with_reducible exact Calls.ext_of (tabr_refAt (TabR.below (TabR.below hT' (by (repeat (first | with_reducible exact Below.refl _ _ | ((with_reducible refine Below.alloc1 ?_ ?_ _); (· first | omega | (simp; done) | (simp; omega))) | (with_reducible refine Below.drew ?_) | (with_reducible refine below_drewN' ?_ _) | ((with_reducible refine Below.setCell1 ?_ ?_ _); (· first | omega | (simp; done) | (simp; omega))) | ((with_reducible refine Below.after (by assumption) ?_ ?_); (· first | omega | (simp; done) | (simp; omega))))))) (Ext.b _)) key v1 hkey V2)) | (go_at_call 32; with_reducible exact Calls.ext_of (tab_at (TabR.one (TabR.below (TabR.below hT' (by (repeat (first | with_reducible exact Below.refl _ _ | ((with_reducible refine Below.alloc1 ?_ ?_ _); (· first | omega | (simp; done) | (simp; omega))) | (with_reducible refine Below.drew ?_) | (with_reducible refine below_drewN' ?_ _) | ((with_reducible refine Below.setCell1 ?_ ?_ _); (· first | omega | (simp; done) | (simp; omega))) | ((with_reducible refine Below.after (by assumption) ?_ ?_); (· first | omega | (simp; done) | (simp; omega))))))) (Ext.b _))) x.lo v2 hk1' V3)) | (go_at_call 44; with_reducible exact Calls.ext_of (tabr_refAt (TabR.below (TabR.below hT' (by (repeat (first | with_reducible exact Below.refl _ _ | ((with_reducible refine Below.alloc1 ?_ ?_ _); (· first | omega | (simp; done) | (simp; omega))) | (with_reducible refine Below.drew ?_) | (with_reducible refine below_drewN' ?_ _) | ((with_reducible refine Below.setCell1 ?_ ?_ _); (· first | omega | (simp; done) | (simp; omega))) | ((with_reducible refine Below.after (by assumption) ?_ ?_); (· first | omega | (simp; done) | (simp; omega))))))) (Ext.b _)) x.lo v2 hk1' V4))))); refine wpQuiet_nil ?_; rintro w8 ⟨x8, hx8⟩; have hb8 := x8.b; rw [← hx8] at hb8; clear hx8 x8; obtain ⟨hc8, hf8⟩ := bcell hb8; (try simp only [World.heap_drewN, World.cell?_drewN, World.frozen?_drewN] at hc8 hf8); have hz8 := hb8.size; (try simp at hz8); (try have hy8_0 : w.heap.size < w8.heap.size := by omega); (try have hy8_1 : w.heap.size + 1 < w8.heap.size := by omega); (try have hy8_2 : w.heap.size + 2 < w8.heap.size := by omega); (try have hy8_3 : w.heap.size + 3 < w8.heap.size := by omega); (try have hx8_0 : w.heap.size ≤ w8.heap.size := by omega); (try have hx8_1 : w.heap.size + 1 ≤ w8.heap.size := by omega); (try have hx8_2 : w.heap.size + 2 ≤ w8.heap.size := by omega))
        go_wp2_with fail
        go_roundw
        case rel => exact ⟨i + 1, by omega, by go_num, its', ms', am', cm', hT'.below (by (repeat (first | with_reducible exact Below.refl _ _ | ((with_reducible refine Below.alloc1 ?_ ?_ _); (· first | omega | (simp; done) | (simp; omega))) | (with_reducible refine Below.drew ?_) | (with_reducible refine below_drewN' ?_ _) | ((with_reducible refine Below.setCell1 ?_ ?_ _); (· first | omega | (simp; done) | (simp; omega))) | ((with_reducible refine Below.after (by assumption) ?_ ?_); (· first | omega | (simp; done) | (simp; omega)))))), hS'⟩
        case measure => simp [intOf]; omega
    · obtain rfl : i = n := by omega
      have x0 := hT.c0
      have x1 := hT.c1
      have hxl := hT.xlt
      have HAll := hid (allR_same hS.out)
      have hl64 : its.length ≤ 64 := by have := hT.le; have := hT.m64; omega
      obtain ⟨v1, V1⟩ : ∃ v, Hid (atI its key = v) := ⟨_, hid rfl⟩
      have V2 : Hid (atI ms key = v1) := hid (by rw [same_at hS.out, V1.out])
      obtain ⟨N, hN⟩ : ∃ N, its.length = N := ⟨_, rfl⟩
      have HN := hid hN
      have Hl64 := hid hl64
      rw [hN] at hl64
      clear HO hN hlt hs6
      go_upto_region 26 with fail
      refine wp_region_notes [Note.val (.pointer (some ⟨T, 0, none⟩)), Note.fits (ItsRow wr.heap.size its) (fun _ _ _ h hb => h.below hb), Note.val (.agg #[.int .i64 mI, .slice am ms.length cm]), Note.fits (MsRow wr.heap.size its) (fun _ _ _ h hb => h.below hb), Note.fits (ItsRow wr.heap.size its) (fun _ _ _ h hb => h.below hb), Note.fits (MsRow wr.heap.size its) (fun _ _ _ h hb => h.below hb)] rfl (by kernel_rfl) (by kernel_rfl) ?_ ?_
      · simp only [List.length_cons, List.length_nil, Nat.reduceAdd, List.take_succ_cons, List.take_zero, StepsN, List.nil_append, List.cons_append]
        refine ⟨?_, ?_, ?_, ?_, ?_, ?_, trivial⟩
        · intro u w8 hb8 hd
          obtain ⟨hc8, hf8⟩ := bcell hb8
          (try simp only [World.heap_drewN, World.cell?_drewN, World.frozen?_drewN] at hc8 hf8)
          have hz8 := hb8.size
          (try simp at hz8)
          (try have hy8_0 : w.heap.size < w8.heap.size := by omega)
          (try have hy8_1 : w.heap.size + 1 < w8.heap.size := by omega)
          (try have hy8_2 : w.heap.size + 2 < w8.heap.size := by omega)
          (try have hy8_3 : w.heap.size + 3 < w8.heap.size := by omega)
          (try have hx8_0 : w.heap.size ≤ w8.heap.size := by omega)
          (try have hx8_1 : w.heap.size + 1 ≤ w8.heap.size := by omega)
          (try have hx8_2 : w.heap.size + 2 ≤ w8.heap.size := by omega)
          (try (simp [Region.binds, Note.phi, cellsAre] at hd))
          revert hd
          (try simp only [putsFrom, Act.put, List.setIfInBounds_toArray, List.set_cons_zero, List.set_cons_succ, Nat.zero_add, Nat.reduceAdd])
          ((try simp only [forall_exists_index, and_imp]); intros)
          clear u
          go_wp2_with (first | (go_at_call 34; (with_reducible refine (tabr_all (TabR.below hT (by (repeat (first | with_reducible exact Below.refl _ _ | ((with_reducible refine Below.alloc1 ?_ ?_ _); (· first | omega | (simp; done) | (simp; omega))) | (with_reducible refine Below.drew ?_) | (with_reducible refine below_drewN' ?_ _) | ((with_reducible refine Below.setCell1 ?_ ?_ _); (· first | omega | (simp; done) | (simp; omega))) | ((with_reducible refine Below.after (by assumption) ?_ ?_); (· first | omega | (simp; done) | (simp; omega))))))) wr.heap.size (by assumption)).mono ?_); rintro e wy ⟨vy, rfl, hpy, hby⟩) | (go_at_call 45; (with_reducible refine (tabr_refAll (TabR.below hT (by (repeat (first | with_reducible exact Below.refl _ _ | ((with_reducible refine Below.alloc1 ?_ ?_ _); (· first | omega | (simp; done) | (simp; omega))) | (with_reducible refine Below.drew ?_) | (with_reducible refine below_drewN' ?_ _) | ((with_reducible refine Below.setCell1 ?_ ?_ _); (· first | omega | (simp; done) | (simp; omega))) | ((with_reducible refine Below.after (by assumption) ?_ ?_); (· first | omega | (simp; done) | (simp; omega))))))) HAll wr.heap.size (by assumption)).mono ?_); rintro e wy ⟨vy, rfl, hpy, hby⟩))
          exact ⟨rfl, by (repeat (first | with_reducible exact Below.refl _ _ | ((with_reducible refine Below.alloc1 ?_ ?_ _); (· first | omega | (simp; done) | (simp; omega))) | (with_reducible refine Below.drew ?_) | (with_reducible refine below_drewN' ?_ _) | ((with_reducible refine Below.setCell1 ?_ ?_ _); (· first | omega | (simp; done) | (simp; omega))) | ((with_reducible refine Below.after (by assumption) ?_ ?_); (· first | omega | (simp; done) | (simp; omega))))), rfl⟩
        · intro u w8 hb8 hd
          obtain ⟨hc8, hf8⟩ := bcell hb8
          (try simp only [World.heap_drewN, World.cell?_drewN, World.frozen?_drewN] at hc8 hf8)
          have hz8 := hb8.size
          (try simp at hz8)
          (try have hy8_0 : w.heap.size < w8.heap.size := by omega)
          (try have hy8_1 : w.heap.size + 1 < w8.heap.size := by omega)
          (try have hy8_2 : w.heap.size + 2 < w8.heap.size := by omega)
          (try have hy8_3 : w.heap.size + 3 < w8.heap.size := by omega)
          (try have hx8_0 : w.heap.size ≤ w8.heap.size := by omega)
          (try have hx8_1 : w.heap.size + 1 ≤ w8.heap.size := by omega)
          (try have hx8_2 : w.heap.size + 2 ≤ w8.heap.size := by omega)
          (try (simp [Region.binds, Note.phi, cellsAre] at hd))
          revert hd
          (try simp only [putsFrom, Act.put, List.setIfInBounds_toArray, List.set_cons_zero, List.set_cons_succ, Nat.zero_add, Nat.reduceAdd])
          generalize u 0 = u0
          ((try simp only [forall_exists_index, and_imp]); intros)
          (try subst u0)
          clear u
          go_wp2_with (first | (go_at_call 34; (with_reducible refine (tabr_all (TabR.below hT (by (repeat (first | with_reducible exact Below.refl _ _ | ((with_reducible refine Below.alloc1 ?_ ?_ _); (· first | omega | (simp; done) | (simp; omega))) | (with_reducible refine Below.drew ?_) | (with_reducible refine below_drewN' ?_ _) | ((with_reducible refine Below.setCell1 ?_ ?_ _); (· first | omega | (simp; done) | (simp; omega))) | ((with_reducible refine Below.after (by assumption) ?_ ?_); (· first | omega | (simp; done) | (simp; omega))))))) wr.heap.size (by assumption)).mono ?_); rintro e wy ⟨vy, rfl, hpy, hby⟩) | (go_at_call 45; (with_reducible refine (tabr_refAll (TabR.below hT (by (repeat (first | with_reducible exact Below.refl _ _ | ((with_reducible refine Below.alloc1 ?_ ?_ _); (· first | omega | (simp; done) | (simp; omega))) | (with_reducible refine Below.drew ?_) | (with_reducible refine below_drewN' ?_ _) | ((with_reducible refine Below.setCell1 ?_ ?_ _); (· first | omega | (simp; done) | (simp; omega))) | ((with_reducible refine Below.after (by assumption) ?_ ?_); (· first | omega | (simp; done) | (simp; omega))))))) HAll wr.heap.size (by assumption)).mono ?_); rintro e wy ⟨vy, rfl, hpy, hby⟩))
          exact ⟨rfl, by (repeat (first | with_reducible exact Below.refl _ _ | ((with_reducible refine Below.alloc1 ?_ ?_ _); (· first | omega | (simp; done) | (simp; omega))) | (with_reducible refine Below.drew ?_) | (with_reducible refine below_drewN' ?_ _) | ((with_reducible refine Below.setCell1 ?_ ?_ _); (· first | omega | (simp; done) | (simp; omega))) | ((with_reducible refine Below.after (by assumption) ?_ ?_); (· first | omega | (simp; done) | (simp; omega))))), by assumption⟩
        · intro u w8 hb8 hd
          obtain ⟨hc8, hf8⟩ := bcell hb8
          (try simp only [World.heap_drewN, World.cell?_drewN, World.frozen?_drewN] at hc8 hf8)
          have hz8 := hb8.size
          (try simp at hz8)
          (try have hy8_0 : w.heap.size < w8.heap.size := by omega)
          (try have hy8_1 : w.heap.size + 1 < w8.heap.size := by omega)
          (try have hy8_2 : w.heap.size + 2 < w8.heap.size := by omega)
          (try have hy8_3 : w.heap.size + 3 < w8.heap.size := by omega)
          (try have hx8_0 : w.heap.size ≤ w8.heap.size := by omega)
          (try have hx8_1 : w.heap.size + 1 ≤ w8.heap.size := by omega)
          (try have hx8_2 : w.heap.size + 2 ≤ w8.heap.size := by omega)
          (try (simp [Region.binds, Note.phi, cellsAre] at hd))
          revert hd
          (try simp only [putsFrom, Act.put, List.setIfInBounds_toArray, List.set_cons_zero, List.set_cons_succ, Nat.zero_add, Nat.reduceAdd])
          generalize u 0 = u0
          generalize u 1 = u1
          ((try simp only [forall_exists_index, and_imp]); intros)
          (try subst u0)
          (try subst u1)
          clear u
          go_wp2_with (first | (go_at_call 34; (with_reducible refine (tabr_all (TabR.below hT (by (repeat (first | with_reducible exact Below.refl _ _ | ((with_reducible refine Below.alloc1 ?_ ?_ _); (· first | omega | (simp; done) | (simp; omega))) | (with_reducible refine Below.drew ?_) | (with_reducible refine below_drewN' ?_ _) | ((with_reducible refine Below.setCell1 ?_ ?_ _); (· first | omega | (simp; done) | (simp; omega))) | ((with_reducible refine Below.after (by assumption) ?_ ?_); (· first | omega | (simp; done) | (simp; omega))))))) wr.heap.size (by assumption)).mono ?_); rintro e wy ⟨vy, rfl, hpy, hby⟩) | (go_at_call 45; (with_reducible refine (tabr_refAll (TabR.below hT (by (repeat (first | with_reducible exact Below.refl _ _ | ((with_reducible refine Below.alloc1 ?_ ?_ _); (· first | omega | (simp; done) | (simp; omega))) | (with_reducible refine Below.drew ?_) | (with_reducible refine below_drewN' ?_ _) | ((with_reducible refine Below.setCell1 ?_ ?_ _); (· first | omega | (simp; done) | (simp; omega))) | ((with_reducible refine Below.after (by assumption) ?_ ?_); (· first | omega | (simp; done) | (simp; omega))))))) HAll wr.heap.size (by assumption)).mono ?_); rintro e wy ⟨vy, rfl, hpy, hby⟩))
          exact ⟨rfl, by (repeat (first | with_reducible exact Below.refl _ _ | ((with_reducible refine Below.alloc1 ?_ ?_ _); (· first | omega | (simp; done) | (simp; omega))) | (with_reducible refine Below.drew ?_) | (with_reducible refine below_drewN' ?_ _) | ((with_reducible refine Below.setCell1 ?_ ?_ _); (· first | omega | (simp; done) | (simp; omega))) | ((with_reducible refine Below.after (by assumption) ?_ ?_); (· first | omega | (simp; done) | (simp; omega))))), rfl⟩
        · intro u w8 hb8 hd
          obtain ⟨hc8, hf8⟩ := bcell hb8
          (try simp only [World.heap_drewN, World.cell?_drewN, World.frozen?_drewN] at hc8 hf8)
          have hz8 := hb8.size
          (try simp at hz8)
          (try have hy8_0 : w.heap.size < w8.heap.size := by omega)
          (try have hy8_1 : w.heap.size + 1 < w8.heap.size := by omega)
          (try have hy8_2 : w.heap.size + 2 < w8.heap.size := by omega)
          (try have hy8_3 : w.heap.size + 3 < w8.heap.size := by omega)
          (try have hx8_0 : w.heap.size ≤ w8.heap.size := by omega)
          (try have hx8_1 : w.heap.size + 1 ≤ w8.heap.size := by omega)
          (try have hx8_2 : w.heap.size + 2 ≤ w8.heap.size := by omega)
          (try (simp [Region.binds, Note.phi, cellsAre] at hd))
          revert hd
          (try simp only [putsFrom, Act.put, List.setIfInBounds_toArray, List.set_cons_zero, List.set_cons_succ, Nat.zero_add, Nat.reduceAdd])
          generalize u 0 = u0
          generalize u 1 = u1
          generalize u 2 = u2
          ((try simp only [forall_exists_index, and_imp]); intros)
          (try subst u0)
          (try subst u1)
          (try subst u2)
          clear u
          go_wp2_with (first | (go_at_call 34; (with_reducible refine (tabr_all (TabR.below hT (by (repeat (first | with_reducible exact Below.refl _ _ | ((with_reducible refine Below.alloc1 ?_ ?_ _); (· first | omega | (simp; done) | (simp; omega))) | (with_reducible refine Below.drew ?_) | (with_reducible refine below_drewN' ?_ _) | ((with_reducible refine Below.setCell1 ?_ ?_ _); (· first | omega | (simp; done) | (simp; omega))) | ((with_reducible refine Below.after (by assumption) ?_ ?_); (· first | omega | (simp; done) | (simp; omega))))))) wr.heap.size (by assumption)).mono ?_); rintro e wy ⟨vy, rfl, hpy, hby⟩) | (go_at_call 45; (with_reducible refine (tabr_refAll (TabR.below hT (by (repeat (first | with_reducible exact Below.refl _ _ | ((with_reducible refine Below.alloc1 ?_ ?_ _); (· first | omega | (simp; done) | (simp; omega))) | (with_reducible refine Below.drew ?_) | (with_reducible refine below_drewN' ?_ _) | ((with_reducible refine Below.setCell1 ?_ ?_ _); (· first | omega | (simp; done) | (simp; omega))) | ((with_reducible refine Below.after (by assumption) ?_ ?_); (· first | omega | (simp; done) | (simp; omega))))))) HAll wr.heap.size (by assumption)).mono ?_); rintro e wy ⟨vy, rfl, hpy, hby⟩))
          exact ⟨rfl, by (repeat (first | with_reducible exact Below.refl _ _ | ((with_reducible refine Below.alloc1 ?_ ?_ _); (· first | omega | (simp; done) | (simp; omega))) | (with_reducible refine Below.drew ?_) | (with_reducible refine below_drewN' ?_ _) | ((with_reducible refine Below.setCell1 ?_ ?_ _); (· first | omega | (simp; done) | (simp; omega))) | ((with_reducible refine Below.after (by assumption) ?_ ?_); (· first | omega | (simp; done) | (simp; omega))))), by assumption⟩
        · intro u w8 hb8 hd
          obtain ⟨hc8, hf8⟩ := bcell hb8
          (try simp only [World.heap_drewN, World.cell?_drewN, World.frozen?_drewN] at hc8 hf8)
          have hz8 := hb8.size
          (try simp at hz8)
          (try have hy8_0 : w.heap.size < w8.heap.size := by omega)
          (try have hy8_1 : w.heap.size + 1 < w8.heap.size := by omega)
          (try have hy8_2 : w.heap.size + 2 < w8.heap.size := by omega)
          (try have hy8_3 : w.heap.size + 3 < w8.heap.size := by omega)
          (try have hx8_0 : w.heap.size ≤ w8.heap.size := by omega)
          (try have hx8_1 : w.heap.size + 1 ≤ w8.heap.size := by omega)
          (try have hx8_2 : w.heap.size + 2 ≤ w8.heap.size := by omega)
          (try (simp [Region.binds, Note.phi, cellsAre] at hd))
          revert hd
          (try simp only [putsFrom, Act.put, List.setIfInBounds_toArray, List.set_cons_zero, List.set_cons_succ, Nat.zero_add, Nat.reduceAdd])
          generalize u 0 = u0
          generalize u 1 = u1
          generalize u 2 = u2
          generalize u 3 = u3
          ((try simp only [forall_exists_index, and_imp]); intros)
          (try subst u0)
          (try subst u1)
          (try subst u2)
          (try subst u3)
          clear u
          go_wp2_with (first | (go_at_call 34; (with_reducible refine (tabr_all (TabR.below hT (by (repeat (first | with_reducible exact Below.refl _ _ | ((with_reducible refine Below.alloc1 ?_ ?_ _); (· first | omega | (simp; done) | (simp; omega))) | (with_reducible refine Below.drew ?_) | (with_reducible refine below_drewN' ?_ _) | ((with_reducible refine Below.setCell1 ?_ ?_ _); (· first | omega | (simp; done) | (simp; omega))) | ((with_reducible refine Below.after (by assumption) ?_ ?_); (· first | omega | (simp; done) | (simp; omega))))))) wr.heap.size (by assumption)).mono ?_); rintro e wy ⟨vy, rfl, hpy, hby⟩) | (go_at_call 45; (with_reducible refine (tabr_refAll (TabR.below hT (by (repeat (first | with_reducible exact Below.refl _ _ | ((with_reducible refine Below.alloc1 ?_ ?_ _); (· first | omega | (simp; done) | (simp; omega))) | (with_reducible refine Below.drew ?_) | (with_reducible refine below_drewN' ?_ _) | ((with_reducible refine Below.setCell1 ?_ ?_ _); (· first | omega | (simp; done) | (simp; omega))) | ((with_reducible refine Below.after (by assumption) ?_ ?_); (· first | omega | (simp; done) | (simp; omega))))))) HAll wr.heap.size (by assumption)).mono ?_); rintro e wy ⟨vy, rfl, hpy, hby⟩))
          exact ⟨rfl, by (repeat (first | with_reducible exact Below.refl _ _ | ((with_reducible refine Below.alloc1 ?_ ?_ _); (· first | omega | (simp; done) | (simp; omega))) | (with_reducible refine Below.drew ?_) | (with_reducible refine below_drewN' ?_ _) | ((with_reducible refine Below.setCell1 ?_ ?_ _); (· first | omega | (simp; done) | (simp; omega))) | ((with_reducible refine Below.after (by assumption) ?_ ?_); (· first | omega | (simp; done) | (simp; omega))))), by assumption⟩
        · intro u w8 hb8 hd
          obtain ⟨hc8, hf8⟩ := bcell hb8
          (try simp only [World.heap_drewN, World.cell?_drewN, World.frozen?_drewN] at hc8 hf8)
          have hz8 := hb8.size
          (try simp at hz8)
          (try have hy8_0 : w.heap.size < w8.heap.size := by omega)
          (try have hy8_1 : w.heap.size + 1 < w8.heap.size := by omega)
          (try have hy8_2 : w.heap.size + 2 < w8.heap.size := by omega)
          (try have hy8_3 : w.heap.size + 3 < w8.heap.size := by omega)
          (try have hx8_0 : w.heap.size ≤ w8.heap.size := by omega)
          (try have hx8_1 : w.heap.size + 1 ≤ w8.heap.size := by omega)
          (try have hx8_2 : w.heap.size + 2 ≤ w8.heap.size := by omega)
          (try (simp [Region.binds, Note.phi, cellsAre] at hd))
          revert hd
          (try simp only [putsFrom, Act.put, List.setIfInBounds_toArray, List.set_cons_zero, List.set_cons_succ, Nat.zero_add, Nat.reduceAdd])
          generalize u 0 = u0
          generalize u 1 = u1
          generalize u 2 = u2
          generalize u 3 = u3
          generalize u 4 = u4
          ((try simp only [forall_exists_index, and_imp]); intros)
          (try subst u0)
          (try subst u1)
          (try subst u2)
          (try subst u3)
          (try subst u4)
          clear u
          go_wp2_with (first | (go_at_call 34; (with_reducible refine (tabr_all (TabR.below hT (by (repeat (first | with_reducible exact Below.refl _ _ | ((with_reducible refine Below.alloc1 ?_ ?_ _); (· first | omega | (simp; done) | (simp; omega))) | (with_reducible refine Below.drew ?_) | (with_reducible refine below_drewN' ?_ _) | ((with_reducible refine Below.setCell1 ?_ ?_ _); (· first | omega | (simp; done) | (simp; omega))) | ((with_reducible refine Below.after (by assumption) ?_ ?_); (· first | omega | (simp; done) | (simp; omega))))))) wr.heap.size (by assumption)).mono ?_); rintro e wy ⟨vy, rfl, hpy, hby⟩) | (go_at_call 45; (with_reducible refine (tabr_refAll (TabR.below hT (by (repeat (first | with_reducible exact Below.refl _ _ | ((with_reducible refine Below.alloc1 ?_ ?_ _); (· first | omega | (simp; done) | (simp; omega))) | (with_reducible refine Below.drew ?_) | (with_reducible refine below_drewN' ?_ _) | ((with_reducible refine Below.setCell1 ?_ ?_ _); (· first | omega | (simp; done) | (simp; omega))) | ((with_reducible refine Below.after (by assumption) ?_ ?_); (· first | omega | (simp; done) | (simp; omega))))))) HAll wr.heap.size (by assumption)).mono ?_); rintro e wy ⟨vy, rfl, hpy, hby⟩))
          exact ⟨rfl, by (repeat (first | with_reducible exact Below.refl _ _ | ((with_reducible refine Below.alloc1 ?_ ?_ _); (· first | omega | (simp; done) | (simp; omega))) | (with_reducible refine Below.drew ?_) | (with_reducible refine below_drewN' ?_ _) | ((with_reducible refine Below.setCell1 ?_ ?_ _); (· first | omega | (simp; done) | (simp; omega))) | ((with_reducible refine Below.after (by assumption) ?_ ?_); (· first | omega | (simp; done) | (simp; omega))))), by assumption⟩
      · intro u w8 hb8 hph hap
        obtain ⟨hc8, hf8⟩ := bcell hb8
        (try simp only [World.heap_drewN, World.cell?_drewN, World.frozen?_drewN] at hc8 hf8)
        have hz8 := hb8.size
        (try simp at hz8)
        (try have hy8_0 : w.heap.size < w8.heap.size := by omega)
        (try have hy8_1 : w.heap.size + 1 < w8.heap.size := by omega)
        (try have hy8_2 : w.heap.size + 2 < w8.heap.size := by omega)
        (try have hy8_3 : w.heap.size + 3 < w8.heap.size := by omega)
        (try have hx8_0 : w.heap.size ≤ w8.heap.size := by omega)
        (try have hx8_1 : w.heap.size + 1 ≤ w8.heap.size := by omega)
        (try have hx8_2 : w.heap.size + 2 ≤ w8.heap.size := by omega)
        have hp0 := hph 0 (by simp)
        have hp1 := hph 1 (by simp)
        have hp2 := hph 2 (by simp)
        have hp3 := hph 3 (by simp)
        have hp4 := hph 4 (by simp)
        have hp5 := hph 5 (by simp)
        clear hph hap
        simp only [List.length_cons, List.length_nil, List.take_succ_cons, List.take_zero, List.drop_succ_cons, List.drop_zero, putsFrom, Act.put, List.setIfInBounds_toArray, List.set_cons_zero, List.set_cons_succ, Nat.zero_add, Nat.reduceAdd]
        generalize u 0 = u0 at *
        generalize u 1 = u1 at *
        generalize u 2 = u2 at *
        generalize u 3 = u3 at *
        generalize u 4 = u4 at *
        generalize u 5 = u5 at *
        clear u
        cases hp0
        have hp1 : (ItsRow wr.heap.size its) u1 w8 := hp1
        cases hp2
        have hp3 : (MsRow wr.heap.size its) u3 w8 := hp3
        have hp4 : (ItsRow wr.heap.size its) u4 w8 := hp4
        have hp5 : (MsRow wr.heap.size its) u5 w8 := hp5
        obtain ⟨a1, c1, a2, c2, rfl, rfl, hrows⟩ := rows_apart hp4 hp5 HN.out Hl64.out
        have HA := hid hrows
        have hT8 := hid (hT.below hb8)
        clear hrows hp1 hp3 hp4 hp5 hc8 hf8
        obtain ⟨wo, rfl⟩ : ∃ x, x = wr := ⟨_, rfl⟩
        go_wp2_with fail
        go_loopw [121] (fun iv wv => ∃ k : Nat, k ≤ N ∧ iv = .int .i64 k ∧ Below wo.heap.size wo wv ∧ w8.heap.size ≤ wv.heap.size ∧
          Hid (∀ b o : Nat, b < w8.heap.size → (∀ g, a1 = some ⟨g, 0, none⟩ → b = g → 5 * k ≤ o) → wv.cell? ⟨b, o, none⟩ = w8.cell? ⟨b, o, none⟩) ∧
          Hid (∀ b o : Nat, b < w8.heap.size → wv.frozen? ⟨b, o, none⟩ = w8.frozen? ⟨b, o, none⟩)) (fun iv _ => N - (intOf iv).toNat)
        case atStart => exact ⟨0, Nat.zero_le _, rfl, by (repeat (first | with_reducible exact Below.refl _ _ | ((with_reducible refine Below.alloc1 ?_ ?_ _); (· first | omega | (simp; done) | (simp; omega))) | (with_reducible refine Below.drew ?_) | (with_reducible refine below_drewN' ?_ _) | ((with_reducible refine Below.setCell1 ?_ ?_ _); (· first | omega | (simp; done) | (simp; omega))) | ((with_reducible refine Below.after (by assumption) ?_ ?_); (· first | omega | (simp; done) | (simp; omega))))), Nat.le_refl _, hid fun _ _ _ _ => rfl, hid fun _ _ _ => rfl⟩
        case round =>
          obtain ⟨k, hkN, rfl, hbv, hzv, HC, HF⟩ := hrel
          by_cases hlt : k < N
          · have hlt' : (k : Int) < (N : Int) := by omega
            obtain ⟨g1, g2, rfl, rfl, hne, hlo, hg1, hg2, hr1, hr2, hfr⟩ := HA.out (by omega)
            obtain ⟨m0, m1, m2, m3, m4⟩ := hr1 k hlt
            obtain ⟨n0, n1, n2⟩ := hr2 k hlt
            have m0 := (HC.out g1 (k * 5) hg1 (fun g e1 e2 => by omega)).trans m0
            have m1 := (HC.out g1 (k * 5 + 1) hg1 (fun g e1 e2 => by omega)).trans m1
            have m2 := (HC.out g1 (k * 5 + 2) hg1 (fun g e1 e2 => by omega)).trans m2
            have m3 := (HC.out g1 (k * 5 + 3) hg1 (fun g e1 e2 => by omega)).trans m3
            have m4 := (HC.out g1 (k * 5 + 4) hg1 (fun g e1 e2 => by omega)).trans m4
            have n0 := (HC.out g2 (k * 3) hg2 (fun g e1 e2 => by cases e1; exact absurd e2.symm hne)).trans n0
            have n1 := (HC.out g2 (k * 3 + 1) hg2 (fun g e1 e2 => by cases e1; exact absurd e2.symm hne)).trans n1
            have n2 := (HC.out g2 (k * 3 + 2) hg2 (fun g e1 e2 => by cases e1; exact absurd e2.symm hne)).trans n2
            have q1 := (HF.out g1 (k * 5 + 4) hg1).trans (hfr _)
            have hg1v : g1 < wr.heap.size := by omega
            have hg2v : g2 < wr.heap.size := by omega
            generalize its[k]?.getD default = x at *
            clear hr1 hr2 hfr HA
            go_upto_region 32 with fail
            (refine wp_region_ext (by kernel_rfl) (by kernel_rfl) ?_; (repeat (go_big_quiet_step (first | (go_at_call 46; with_reducible exact Calls.ext_of (refSpanK x.k _)) | (go_at_call 38; with_reducible exact Calls.ext_of (sameSpan_refl _ _ _ _ _))))); refine wpQuiet_nil ?_; rintro w9 ⟨x9, hx9⟩; have hb9 := x9.b; rw [← hx9] at hb9; clear hx9 x9; obtain ⟨hc9, hf9⟩ := bcell hb9; (try simp only [World.heap_drewN, World.cell?_drewN, World.frozen?_drewN] at hc9 hf9); have hz9 := hb9.size; (try simp at hz9); (try have hy9_0 : w.heap.size < w9.heap.size := by omega); (try have hy9_1 : w.heap.size + 1 < w9.heap.size := by omega); (try have hy9_2 : w.heap.size + 2 < w9.heap.size := by omega); (try have hy9_3 : w.heap.size + 3 < w9.heap.size := by omega); (try have hx9_0 : w.heap.size ≤ w9.heap.size := by omega); (try have hx9_1 : w.heap.size + 1 ≤ w9.heap.size := by omega); (try have hx9_2 : w.heap.size + 2 ≤ w9.heap.size := by omega))
            go_wp2_with fail
            go_roundw
            case rel => exact ⟨k + 1, by omega, by go_num, by (repeat (first | with_reducible exact Below.refl _ _ | ((with_reducible refine Below.alloc1 ?_ ?_ _); (· first | omega | (simp; done) | (simp; omega))) | (with_reducible refine Below.drew ?_) | (with_reducible refine below_drewN' ?_ _) | ((with_reducible refine Below.setCell1 ?_ ?_ _); (· first | omega | (simp; done) | (simp; omega))) | ((with_reducible refine Below.after (by assumption) ?_ ?_); (· first | omega | (simp; done) | (simp; omega))))), by simp; omega, hid fun b o hb hq => by
              rw [World.cell?_setCell_other _ _ _ _ (fun e => by simp only [Addr.mk.injEq] at e; have := hq g1 rfl e.1.symm; omega)]
              rw [hc9 b o (by omega)]
              exact HC.out b o hb (fun g e1 e2 => by have := hq g e1 e2; omega), hid fun b o hb => by
              rw [World.frozen?_setCell, hf9 b o (by omega)]
              exact HF.out b o hb⟩
            case measure => simp [intOf]; omega
          · obtain rfl : k = N := by omega
            have e0 := (hbv.cell (p := ⟨X, 0, none⟩) hxl).trans x0
            have e1 := (hbv.cell (p := ⟨X, 1, none⟩) hxl).trans x1
            have hT9 := hT.below hbv
            have hxl9 := hT9.xlt
            go_upto_region 36 with fail
            (refine wp_region_ext (by kernel_rfl) (by kernel_rfl) ?_; (repeat (go_big_quiet_step (first | (go_at_call 32; with_reducible exact Calls.ext_of (tab_at (TabR.one (TabR.below (TabR.below hT9 (by (repeat (first | with_reducible exact Below.refl _ _ | ((with_reducible refine Below.alloc1 ?_ ?_ _); (· first | omega | (simp; done) | (simp; omega))) | (with_reducible refine Below.drew ?_) | (with_reducible refine below_drewN' ?_ _) | ((with_reducible refine Below.setCell1 ?_ ?_ _); (· first | omega | (simp; done) | (simp; omega))) | ((with_reducible refine Below.after (by assumption) ?_ ?_); (· first | omega | (simp; done) | (simp; omega))))))) (Ext.b _))) _ v1 hkey V1)) | (go_at_call 44; with_reducible exact Calls.ext_of (tabr_refAt (TabR.below (TabR.below hT9 (by (repeat (first | with_reducible exact Below.refl _ _ | ((with_reducible refine Below.alloc1 ?_ ?_ _); (· first | omega | (simp; done) | (simp; omega))) | (with_reducible refine Below.drew ?_) | (with_reducible refine below_drewN' ?_ _) | ((with_reducible refine Below.setCell1 ?_ ?_ _); (· first | omega | (simp; done) | (simp; omega))) | ((with_reducible refine Below.after (by assumption) ?_ ?_); (· first | omega | (simp; done) | (simp; omega))))))) (Ext.b _)) _ v1 hkey V2))))); refine wpQuiet_nil ?_; rintro w10 ⟨x10, hx10⟩; have hb10 := x10.b; rw [← hx10] at hb10; clear hx10 x10; obtain ⟨hc10, hf10⟩ := bcell hb10; (try simp only [World.heap_drewN, World.cell?_drewN, World.frozen?_drewN] at hc10 hf10); have hz10 := hb10.size; (try simp at hz10); (try have hy10_0 : w.heap.size < w10.heap.size := by omega); (try have hy10_1 : w.heap.size + 1 < w10.heap.size := by omega); (try have hy10_2 : w.heap.size + 2 < w10.heap.size := by omega); (try have hy10_3 : w.heap.size + 3 < w10.heap.size := by omega); (try have hx10_0 : w.heap.size ≤ w10.heap.size := by omega); (try have hx10_1 : w.heap.size + 1 ≤ w10.heap.size := by omega); (try have hx10_2 : w.heap.size + 2 ≤ w10.heap.size := by omega))
            go_wp2_with fail
            go_ret
            have hq9 := hT9.b.size
            exact ⟨by simp, hT9.b.trans (Below.mono (B := wr.heap.size) (by (repeat (first | with_reducible exact Below.refl _ _ | ((with_reducible refine Below.alloc1 ?_ ?_ _); (· first | omega | (simp; done) | (simp; omega))) | (with_reducible refine Below.drew ?_) | (with_reducible refine below_drewN' ?_ _) | ((with_reducible refine Below.setCell1 ?_ ?_ _); (· first | omega | (simp; done) | (simp; omega))) | ((with_reducible refine Below.after (by assumption) ?_ ?_); (· first | omega | (simp; done) | (simp; omega)))))) hq9)⟩
end Go.Proofs.Ytnlaepogkepnhaa.Q
