/- Several texts as one: UV UX UW. -/
import Derived.Test.YtekmadgacepdfaaGreatMUC
import Derived.Test.YtekmadgacepdfaaGreatMUG
import Derived.Laws.OwnMore
import Derived.Test.YtekmadgacepdfaaGreatKA0
import Derived.Test.YtekmadgacepdfaaGreatMUO
namespace Go.Proofs.YtekmadgacepdfaaGreat.U
set_option linter.unusedVariables false
set_option linter.unusedSimpArgs false

def numsD (d : CD) : List Int := d.os.map Prod.fst ++ d.rs.map RItem.seq
def upTo (n : Nat) : List Int := (List.range n).map fun (i : Nat) => (i : Int) + 1
structure AllD (n : Nat) (d : CD) : Prop where
  last : d.last = n
  ms : d.ms = [2, 5, 7]
  perm : (numsD d).Perm (upTo n)
  near : ∀ o ∈ d.os, d.last - o.1 < 8
  rise : d.os.Pairwise fun x y => x.1 < y.1
theorem upTo_mem {n : Nat} {m : Int} : m ∈ upTo n ↔ 1 ≤ m ∧ m ≤ n := by
  unfold upTo
  rw [List.mem_map]
  constructor
  · rintro ⟨i, hi, rfl⟩
    have := List.mem_range.1 hi
    omega
  · rintro ⟨h1, h2⟩
    exact ⟨(m - 1).toNat, List.mem_range.2 (by omega), by omega⟩
theorem upTo_snoc (n : Nat) : upTo (n + 1) = upTo n ++ [(n : Int) + 1] := by
  unfold upTo
  rw [List.range_succ, List.map_append]; rfl
theorem upTo_nodup : ∀ n : Nat, (upTo n).Nodup
  | 0 => List.Pairwise.nil
  | n + 1 => by
    rw [upTo_snoc, List.nodup_append]
    refine ⟨upTo_nodup n, by simp, fun a ha b hb => ?_⟩
    have := (upTo_mem.1 ha).2
    rw [List.mem_singleton] at hb
    omega
theorem AllD.num {n : Nat} {d : CD} (h : AllD n d) : ∀ m ∈ numsD d, 1 ≤ m ∧ m ≤ n := fun m hm => upTo_mem.1 (h.perm.mem_iff.1 hm)
theorem AllD.open_ok {n : Nat} {d : CD} (h : AllD n d) : ∀ m ∈ d.os.map Prod.fst, 1 ≤ m ∧ m ≤ n ∧ (n : Int) - m < 8 := fun m hm => by
  obtain ⟨o, ho, rfl⟩ := List.mem_map.1 hm
  have h1 := h.num o.1 (List.mem_append_left _ (List.mem_map.2 ⟨o, ho, rfl⟩))
  have h2 := h.near o ho
  rw [h.last] at h2
  exact ⟨h1.1, h1.2, h2⟩
theorem all_new : AllD 0 (newD 3 [2, 5, 7]) := ⟨rfl, by decide, List.Perm.refl _, (fun _ h => nomatch h), List.Pairwise.nil⟩
theorem drop_perm (seq : Int) : ∀ (os : List (Int × List Nat)), os.Pairwise (fun x y => x.1 < y.1) → (os.any fun o => decide (o.1 = seq)) = true →
    (os.map Prod.fst).Perm (seq :: (os.filter fun o => !decide (o.1 = seq)).map Prod.fst)
  | [], _, h => by simp at h
  | o :: os, hr, h => by
    obtain ⟨h1, h2⟩ := List.pairwise_cons.1 hr
    by_cases he : o.1 = seq
    · have hk : (os.filter fun o => !decide (o.1 = seq)) = os := by
        rw [List.filter_eq_self]
        intro a ha
        have := h1 a ha
        simp; omega
      rw [List.filter_cons_of_neg (by simp [he]), hk, List.map_cons, he]
    · rw [List.filter_cons_of_pos (by simp [he]), List.map_cons, List.map_cons]
      have hany : (os.any fun o => decide (o.1 = seq)) = true := by
        rw [List.any_cons] at h
        simpa [he] using h
      exact ((drop_perm seq os h2 hany).cons _).trans (List.Perm.swap _ _ _)
theorem AllD.heard {n : Nat} {d : CD} (h : AllD n d) (seq code num e lead : Int) : AllD n (heardD d seq code num e lead) := by
  unfold heardD
  split
  · exact h
  · rename_i hany
    split
    · refine ⟨h.last, h.ms, ?_, fun o ho => h.near o (List.mem_filter.1 ho).1, h.rise.sublist List.filter_sublist⟩
      refine List.Perm.trans ?_ h.perm
      unfold numsD
      simp only
      rw [List.map_append, List.map_cons, List.map_nil, ← List.append_assoc]
      have h1 := drop_perm seq d.os h.rise (by simpa using hany)
      refine (List.perm_append_singleton _ _).trans ?_
      rw [← List.cons_append]
      exact (h1.symm.append_right _)
    · split
      · exact ⟨h.last, h.ms, h.perm, h.near, h.rise⟩
      · split
        · exact h
        · exact ⟨h.last, h.ms, h.perm, h.near, h.rise⟩
theorem AllD.add {n : Nat} {d : CD} (h : AllD n d) (x : SubV) : ((addD d x).2.2 = 0 ∧ (addD d x).2.1 = (n : Int) + 1 ∧ AllD (n + 1) (addD d x).1) ∨ ((addD d x).2.2 ≠ 0 ∧ AllD n (addD d x).1) := by
  unfold addD
  split
  · exact .inr ⟨by simp, h⟩
  · rename_i hfull
    split
    · refine .inl ⟨rfl, by simp only; rw [h.last], ⟨by simp only; rw [h.last]; omega, h.ms, ?_, ?_, ?_⟩⟩
      · rw [upTo_snoc]
        unfold numsD
        simp only
        rw [List.map_append, List.map_cons, List.map_nil, h.last, List.append_assoc]
        refine List.Perm.trans ?_ (h.perm.append_right _)
        unfold numsD
        rw [List.append_assoc]
        exact List.Perm.append_left _ List.perm_append_comm
      · simp only
        intro o ho
        rw [List.mem_append] at ho
        rcases ho with ho | ho
        · cases hos : d.os with
          | nil => rw [hos] at ho; cases ho
          | cons o0 os =>
            have hf : ¬ 8 ≤ d.last + 1 - o0.1 := by
              unfold fullD at hfull
              rw [hos] at hfull
              simpa using hfull
            have hr := h.rise
            rw [hos] at hr ho
            rcases List.mem_cons.1 ho with rfl | ho
            · omega
            · have := (List.pairwise_cons.1 hr).1 o ho
              omega
        · rw [List.mem_singleton] at ho
          subst ho
          simp only; omega
      · simp only
        rw [List.pairwise_append]
        refine ⟨h.rise, List.pairwise_singleton _ _, fun a ha b hb => ?_⟩
        rw [List.mem_singleton] at hb
        subst hb
        have := (h.num a.1 (List.mem_append_left _ (List.mem_map.2 ⟨a, ha, rfl⟩))).2
        simp only; rw [h.last]; omega
    · rename_i hc
      exact .inr ⟨hc, h⟩
/-- How often each number stands in a list. -/
def cntRow (N : Nat) (l : List Int) : List Int := (List.range (N + 1)).map fun (k : Nat) => ((l.count (k : Int) : Nat) : Int)
theorem cntRow_len (N : Nat) (l : List Int) : (cntRow N l).length = N + 1 := by unfold cntRow; rw [List.length_map, List.length_range]
theorem cntRow_at (N : Nat) (l : List Int) {k : Nat} (h : k ≤ N) : (cntRow N l)[k]? = some ((l.count (k : Int) : Nat) : Int) := by
  unfold cntRow
  rw [List.getElem?_map, List.getElem?_range (by omega)]; rfl
theorem cntRow_snoc (N : Nat) (l : List Int) {k : Nat} (h : k ≤ N) : (cntRow N l).set k (((l.count (k : Int) : Nat) : Int) + 1) = cntRow N (l ++ [(k : Int)]) := by
  refine List.ext_getElem? fun i => ?_
  rw [List.getElem?_set]
  by_cases hi : i ≤ N
  · rw [cntRow_at N _ hi, cntRow_at N _ hi, List.count_append, cntRow_len]
    by_cases he : k = i
    · subst he
      rw [if_pos rfl, if_pos (by omega)]
      simp
    · rw [if_neg he]
      have : List.count (i : Int) [(k : Int)] = 0 := by
        rw [List.count_eq_zero]
        simp; omega
      rw [this, Nat.add_zero]
  · have h1 : (cntRow N l)[i]? = none := by rw [List.getElem?_eq_none_iff, cntRow_len]; omega
    have h2 : (cntRow N (l ++ [(k : Int)]))[i]? = none := by rw [List.getElem?_eq_none_iff, cntRow_len]; omega
    rw [h2, if_neg (by omega), h1]
theorem cntRow_one {n : Nat} {d : CD} (h : AllD n d) {k : Nat} (hk : k < n) : (cntRow n (numsD d))[k + 1]? = some 1 := by
  rw [cntRow_at n _ (by omega), h.perm.count_eq]
  have hm : ((k + 1 : Nat) : Int) ∈ upTo n := upTo_mem.2 (by omega)
  have h1 := List.count_pos_iff.2 hm
  have h2 := List.nodup_iff_count.1 (upTo_nodup n) ((k + 1 : Nat) : Int)
  rw [show List.count ((k + 1 : Nat) : Int) (upTo n) = 1 by omega]
  rfl
end Go.Proofs.YtekmadgacepdfaaGreat.U
namespace Go.Proofs.YtekmadgacepdfaaGreat.U
set_option linter.unusedVariables false
open Go.RowKit Fl
set_option linter.unusedSimpArgs false

theorem intInfo1 : (Tryz.prog.info? 3).map (fun i => (i.zero, i.size, i.bytes)) = some (some (.int .i64 0), 1, 8) := by kernel_rfl
theorem seen_make (n : Nat) (h : n ≤ 1099511627777) (w : World) :
    ∃ w', (Instr.makeSlice 22 (.int .i64 ((n + 1 : Nat) : Int)) (.int .i64 ((n + 1 : Nat) : Int))).run Tryz.prog w = .ok (.slice (some ⟨w.heap.size, 0, none⟩) (n + 1) (n + 1)) w' ∧
      w'.ownsRow w.heap.size 3 1 (.slice (some ⟨w.heap.size, 0, none⟩) (n + 1) (n + 1)) (n + 1) (zCells (cntRow n [])) ∧ w.grownBy w' none := by
  obtain ⟨i0, hi0, hz0, hzs, hzb⟩ := info_parts intInfo1
  obtain ⟨w', h1, h2, h3⟩ := run_make_full (P := Tryz.prog) (w := w) w.heap.size 22 3 i0 _ 1 Tryz.underlying22 hi0 hz0 hzs .i64 .i64 (n + 1) (by rw [hzb]; omega) (by unfold maxLen; omega) (Nat.le_refl _)
  refine ⟨w', h1, ?_, h3⟩
  have he : (madeCells (Value.int IntKind.i64 0).cells ((n + 1) * 1)).toList = zCells (cntRow n []) := by
    refine List.ext_getElem? fun j => ?_
    unfold zCells
    rw [List.getElem?_map, Nat.mul_one]
    by_cases hj : j ≤ n
    · rw [cntRow_at n _ hj]
      have : j < n + 1 := by omega
      simp [madeCells, Value.cells, Nat.mod_one, this]
    · have h1 : (cntRow n [])[j]? = none := by rw [List.getElem?_eq_none_iff, cntRow_len]; omega
      rw [h1]
      simp [madeCells]; omega
  rw [← he]
  exact h2
theorem seen_step {w : World} {B n k g cc : Nat} {l : List Int} (h : w.ownsRow B 3 1 (.slice (some ⟨g, 0, none⟩) (n + 1) cc) (n + 1) (zCells (cntRow n l))) (hk : k ≤ n) :
    w.cell? ⟨g, k, none⟩ = some (.int .i64 ((l.count (k : Int) : Nat) : Int)) ∧ w.frozen? ⟨g, k, none⟩ = false ∧
      (w.setCell ⟨g, k, none⟩ (.int .i64 (((l.count (k : Int) : Nat) : Int) + 1))).ownsRow B 3 1 (.slice (some ⟨g, 0, none⟩) (n + 1) cc) (n + 1) (zCells (cntRow n (l ++ [(k : Int)]))) ∧
      w.grownBy (w.setCell ⟨g, k, none⟩ (.int .i64 (((l.count (k : Int) : Nat) : Int) + 1))) (some g) := by
  have hc := h.cells (g := g) rfl k (.int .i64 ((l.count (k : Int) : Nat) : Int)) (by unfold zCells; rw [List.getElem?_map, cntRow_at n l hk]; rfl)
  rw [K.addr0] at hc
  rcases h.2 with ⟨h1, _⟩ | ⟨g', cap, cur, h1, h2, hb, h4, h5, h6, h7⟩
  · cases h1
  injection h1 with ha _ hcap
  injection ha with ha
  injection ha with ha
  subst ha; subst hcap
  have hset := K.set1 (i := k) hb (Value.int IntKind.i64 (((l.count (k : Int) : Nat) : Int) + 1))
  refine ⟨hc, by rw [World.frozen?]; simp [hb], ⟨by unfold zCells; rw [List.length_map, cntRow_len, Nat.mul_one], .inr ⟨g, cc, _, rfl, h2, hset.1, h4, h5, by simpa using h6, ?_⟩⟩, hset.2⟩
  rw [← cntRow_snoc n l hk]
  unfold zCells at h7 ⊢
  rw [List.map_set, ← h7]
  simp [List.take_set]
/-- The ring's row has grown. -/
theorem CAt.ring_app {B p BW n cc : Nat} {c : CL} {w w' : World} {a : Option Addr} {cs : List Value} (h : CAt B p c w) (hr : w.ownsRow BW 3 1 (.slice a n cc) n cs) (hm : ∀ g, c.ma = some g → g.block < BW) (hg : w.grownBy w' (Value.slice a n cc).ownBlock) : CAt B p c w' := by
  have hne : ∀ (q : Nat) (o : Obj), w.heap[q]? = some o → (∀ cur, o ≠ Obj.cells cur 3 (0, 0)) → w'.heap[q]? = w.heap[q]? := fun q o hq ho => hg.block q (Array.getElem?_eq_some_iff.1 hq).1 fun he => by
    obtain ⟨cur, hb⟩ := own_blk hr he.symm
    rw [hq] at hb
    exact ho cur (Option.some.inj hb)
  have hty : ∀ (T : TypeId), T ≠ 3 → ∀ cur fr cur', Obj.cells cur T fr ≠ Obj.cells cur' 3 (0, 0) := fun T hT cur fr cur' he => by
    simp only [Obj.cells.injEq] at he
    exact hT he.2.1
  refine ⟨(hne p _ h.box (hty _ (by decide) _ _)).trans h.box, h.hp, ?_, ?_, h.hm, fun o ho => own_stay (h.item o ho) fun g cur _ hc => hne g _ hc (hty _ (by decide) _ _), h.byte, h.rise, h.num, h.last, own_stay h.res fun g cur _ hc => hne g _ hc (hty _ (by decide) _ _), h.many, h.tgt, h.ring, h.ses⟩
  · refine own_stay h.mem fun g cur hv hc => hg.block g (Array.getElem?_eq_some_iff.1 hc).1 fun he => ?_
    have h1 := (hr.lt g he.symm).1
    cases hma : c.ma with
    | none => rw [hma] at hv; cases hv
    | some q =>
      have h2 := hm q hma
      rw [hma] at hv
      cases hv
      omega
  · obtain ⟨es, clock, hb, _⟩ := h.map
    exact map_stay h.map (hne _ _ hb fun cur he => by cases he)
end Go.Proofs.YtekmadgacepdfaaGreat.U
namespace Go.Proofs.YtekmadgacepdfaaGreat.U
set_option linter.unusedVariables false
open Go.RowKit Fl
open Go.Proofs.YtekmadgacepdfaaGreat.K (Fits)
set_option linter.unusedSimpArgs false

theorem tri_at (w : World) : ZAt (w.alloc (.cells #[.int .i64 2, .int .i64 5, .int .i64 7] 3)) (some ⟨w.heap.size, 0, none⟩) [2, 5, 7] := by
  refine ⟨.inr ⟨w.heap.size, 0, rfl, by simp, fun i hi => ?_⟩, by simp [maxLen]⟩
  rw [cell_of_row _ _ _ _ _ (0, 0) (heap_alloc_new w _)]
  have : i = 0 ∨ i = 1 ∨ i = 2 := by have : i < 3 := hi; omega
  rcases this with rfl | rfl | rfl <;> rfl
theorem rCells_at {rs : List RItem} {j t : Nat} {v : Value} (hj : j < rs.length) (hv : (rEnc rs[j])[t]? = some v) : (rCells rs)[j * 3 + t]? = some v := by
  have h1 := flat_drop (f := rEnc) (K := 3) (fun _ => rfl) rs j
  rw [List.drop_eq_getElem_cons hj, List.flatMap_cons] at h1
  have h2 : ((rCells rs).drop (j * 3))[t]? = some v := by
    unfold rCells
    rw [h1, List.getElem?_append_left (List.getElem?_eq_some_iff.1 hv).1]; exact hv
  rw [List.getElem?_drop] at h2
  exact h2
set_option maxHeartbeats 1000000 in
set_option maxRecDepth 100000 in
theorem clientAll_walk (a : Option Addr) (c0 : Nat) (ops : List OpV) (w : World) (h : OAt w a ops) :
    Calls Tryz.prog 4 #[.slice a ops.length c0] w (Ret (.bool true) w) := by
  have HM := hid h
  have hlen := h.len
  clear h
  generalize hml : ops.length = mlen at *
  have HML := hid hml
  clear hml
  go_enter Tryz.func4, Tryz.ntmps4
  go_wp2_with fail
  have hA : Below w.heap.size w (w.alloc (.cells #[.int .i64 2, .int .i64 5, .int .i64 7] 3)) := Below.alloc1 (Nat.le_refl _) (Below.refl _ _) _
  refine (new_any 3 (some ⟨w.heap.size, 0, none⟩) 3 3 [2, 5, 7] _ rfl (tri_at w) ⟨by omega, by omega⟩).mono ?_
  rintro e w1 ⟨hb1, p, c, rfl, hC, hd⟩
  generalize w.alloc (.cells #[.int .i64 2, .int .i64 5, .int .i64 7] 3) = w0 at *
  have hb01 := hA.trans (hb1.mono hA.size)
  have hw0 := hA.size
  have HD : Hid (AllD 0 c.d) := hid (by rw [hd]; exact all_new)
  have HC := hid hC
  clear hA hb1 hC hd
  have hsz1 := hb01.size
  go_upto_region 6 with (go_at_call 13; (with_reducible refine (alive21_any _).mono ?_); rintro e w2 ⟨rfl, hb2⟩; obtain ⟨hc2, hf2⟩ := bcell hb2; (try simp only [World.heap_drewN, World.cell?_drewN, World.frozen?_drewN] at hc2 hf2); have hz2 := hb2.size; (try simp at hz2); (try have hy2_0 : w.heap.size < w2.heap.size := by omega); (try have hy2_1 : w.heap.size + 1 < w2.heap.size := by omega); (try have hy2_2 : w.heap.size + 2 < w2.heap.size := by omega); (try have hy2_3 : w.heap.size + 3 < w2.heap.size := by omega); (try have hx2_0 : w.heap.size ≤ w2.heap.size := by omega); (try have hx2_1 : w.heap.size + 1 ≤ w2.heap.size := by omega); (try have hx2_2 : w.heap.size + 2 ≤ w2.heap.size := by omega))
  have hb02 : Below w.heap.size w w2 := hb01.trans (hb2.mono hsz1)
  have HC2 := hid (HC.out.below hb2)
  clear hb01 hb2 HC hsz1
  go_loopw [4, 28] (fun t4 t28 wr => ∃ (i n : Nat) (cl : CL), t28 = .int .i64 (i : Nat) ∧ t4 = .int .i64 (n : Nat) ∧ i ≤ mlen ∧ n ≤ i ∧ Hid (CAt w0.heap.size p cl wr) ∧ Hid (AllD n cl.d) ∧ Below w.heap.size w wr) (fun _ t28 _ => mlen - (intOf t28).toNat)
  case atStart => exact ⟨0, 0, c, rfl, rfl, Nat.zero_le _, Nat.le_refl _, HC2, HD, hb02⟩
  case round =>
    obtain ⟨i, n, cl, rfl, rfl, hi, hni, HCL, HAD, hbw⟩ := hrel
    by_cases hlt : i < mlen
    · have hlt' : (i : Int) < (mlen : Int) := by omega
      have him : i < ops.length := by rw [HML.out]; exact hlt
      have hO := HM.out.below hbw
      rcases hO.row with h0 | ⟨gb, o, ha, hbl, hcl⟩
      · rw [h0] at him; simp at him
      subst ha
      have hcl := hcl i him
      have HS := hid (hO.sub i him)
      have HN := hid (hO.num i him)
      clear hO
      generalize ops[i]?.getD default = op at *
      have k0 : wr.cell? ⟨gb, o + i * 12, none⟩ = some (.int .i64 op.kind) := hcl 0 _ rfl
      have k1 := hcl 1 _ rfl
      have k2 := hcl 2 _ rfl
      have k3 := hcl 3 _ rfl
      have k4 := hcl 4 _ rfl
      have k5 := hcl 5 _ rfl
      have k6 := hcl 6 _ rfl
      have k7 := hcl 7 _ rfl
      have k8 := hcl 8 _ rfl
      have k9 := hcl 9 _ rfl
      have k10 := hcl 10 _ rfl
      have k11 := hcl 11 _ rfl
      clear hcl
      go_upto_region 8 with fail
      go_upto_block 2 with fail
      go_cut [4, 7, 8, 28] from 28 to 102 (fun t4 _ _ t28 wc => t28 = .int .i64 (i : Nat) ∧ ∃ (n' : Nat) (cl' : CL), t4 = .int .i64 (n' : Nat) ∧ n' ≤ i + 1 ∧ Hid (CAt w0.heap.size p cl' wc) ∧ Hid (AllD n' cl'.d) ∧ Below w.heap.size w wc)
      case first =>
        by_cases h1 : op.kind = 1
        · have hg1 : (op.kind == 1) = true := by simpa using h1
          obtain ⟨r, hr⟩ : ∃ r, r = addD cl.d op.s := ⟨_, rfl⟩
          have hadd := HAD.out.add op.s
          rw [← hr] at hadd
          have HR := hid hr
          have HADD := hid hadd
          clear hr hadd
          go_wp2_with fail
          refine (add_any w0.heap.size p cl op.s _ (HCL.out.below (Below.alloc1 (Nat.le_refl _) (Below.refl _ _) _)) (HS.out.1.below (Below.alloc1 (Nat.le_refl _) (Below.refl _ _) _)) HS.out.2).mono ?_
          rw [← HR.out]
          clear HR
          obtain ⟨D, m, ee⟩ := r
          rintro e w3 ⟨rfl, ⟨hb3, _⟩, c3, hC3, hd3, _⟩
          have hbF := (hbw.alloc hbw.size _).trans (hb3.mono hw0)
          have HC3 := hid hC3; have HD3 := hid hd3; have HBF := hid hbF
          clear hC3 hd3 hb3 hbF k0 k1 k2 k3 k4 k5 k6 k7 k8 k9 k10 k11
          rcases HADD.out with ⟨e1, e2, HA⟩ | ⟨e1, HA⟩
          · simp only at e1 e2
            subst e1; subst e2
            have HA3 : Hid (AllD (n + 1) c3.d) := hid (by rw [HD3.out]; exact HA)
            clear HADD HD3 HA
            go_wp2_with fail
            go_meet
            case rel => exact ⟨rfl, n + 1, c3, by go_num, by omega, HC3, HA3, HBF.out⟩
          · simp only at e1
            have hne : (ee == 0) = false := by simpa using e1
            have HA3 : Hid (AllD n c3.d) := hid (by rw [HD3.out]; exact HA)
            clear HADD HD3 HA e1
            go_wp2_with fail
            go_meet
            case rel => exact ⟨rfl, n, c3, rfl, by omega, HC3, HA3, HBF.out⟩
        · have hg1 : (op.kind == 1) = false := by simpa using h1
          by_cases h2 : op.kind = 2
          · have hg2 : (op.kind == 2) = true := by simpa using h2
            go_wp2_with fail
            refine (heard_any w0.heap.size p cl op.seq op.code op.num op.e op.lead _ (HCL.out.below (Below.alloc1 (Nat.le_refl _) (Below.refl _ _) _)) HN.out).mono ?_
            rintro e w3 ⟨rfl, ⟨hb3, _⟩, c3, hC3, hd3, _⟩
            have hbF := (hbw.alloc hbw.size _).trans (hb3.mono hw0)
            have HC3 := hid hC3; have HBF := hid hbF
            have HA3 : Hid (AllD n c3.d) := hid (by rw [hd3]; exact HAD.out.heard _ _ _ _ _)
            clear hC3 hd3 hb3 hbF k0 k1 k2 k3 k4 k5 k6 k7 k8 k9 k10 k11
            go_wp2_with fail
            go_meet
            case rel => exact ⟨rfl, n, c3, rfl, by omega, HC3, HA3, HBF.out⟩
          · have hg2 : (op.kind == 2) = false := by simpa using h2
            go_wp2_with fail
            go_meet
            case rel => exact ⟨rfl, n, cl, rfl, by omega, hid (HCL.out.below (Below.alloc1 (Nat.le_refl _) (Below.refl _ _) _)), HAD, hbw.alloc hbw.size _⟩
      case rest =>
        clear k0 k1 k2 k3 k4 k5 k6 k7 k8 k9 k10 k11 HCL HAD HS HN hbw
        obtain ⟨rfl, n', cl', rfl, hn', HC', HA', hbc⟩ := hcut
        have HOP := hid (open_any w0.heap.size p cl' wc HC'.out)
        have hok := HA'.out.open_ok
        rw [show cl'.d.os.map Prod.fst = cl'.os.map OItem.seq by simp [CL.d, List.map_map, Function.comp_def]] at hok
        have HOK := hid hok
        clear hok
        generalize cl'.os.map OItem.seq = l at *
        go_wp2_with fail
        refine HOP.out.mono ?_
        rintro e w5 ⟨ao, co, rfl, ho, hb5⟩
        have HO := hid ho
        have hb05 := hbc.trans (hb5.mono hbc.size)
        have HC5 := hid (HC'.out.below hb5)
        clear HOP ho hb5 hbc HC'
        have hLl := l.length.eq_zero_or_pos
        have HZ : Hid (∀ v ∈ l, 1 ≤ v ∧ v ≤ (n' : Int) ∧ (n' : Int) - v < 8) := HOK
        clear HOK
        generalize hL : l.length = L at *
        have HLL := hid hL
        clear hL
        have HTG := hid fun W (hb : Below w5.heap.size w5 W) => target_any w0.heap.size p cl' W (HC5.out.below hb)
        have htg : cl'.target = 2 ∨ cl'.target = 5 ∨ cl'.target = 7 := by
          have h1 : cl'.ms = [2, 5, 7] := HA'.out.ms
          have h2 := HC5.out.tgt
          unfold CL.target
          rw [h1] at h2 ⊢
          have : cl'.t = 0 ∨ cl'.t = 1 ∨ cl'.t = 2 := by simp at h2; omega
          rcases this with h | h | h <;> rw [h] <;> simp
        have HT := hid htg
        clear htg
        generalize cl'.target = tg at *
        go_upto_region 18 with fail
        go_cut [28, 89] from 28 to 102 (fun t28 t89 wx => t28 = .int .i64 (i : Nat) ∧ t89 = .bool false ∧ Below w5.heap.size w5 wx)
        case first =>
          rcases hLl with h0 | h0
          · subst h0
            go_quiet (fail)
            go_wp2_with fail
            go_meet
            case rel => exact ⟨rfl, rfl, by (repeat (first | with_reducible exact Below.refl _ _ | ((with_reducible refine Below.alloc1 ?_ ?_ _); (· first | omega | (simp; done) | (simp; omega))) | (with_reducible refine Below.drew ?_) | (with_reducible refine below_drewN' ?_ _) | ((with_reducible refine Below.setCell1 ?_ ?_ _); (· first | omega | (simp; done) | (simp; omega))) | ((with_reducible refine Below.after (by assumption) ?_ ?_); (· first | omega | (simp; done) | (simp; omega)))))⟩
          · obtain ⟨k, rfl⟩ : ∃ k, L = k + 1 := ⟨L - 1, by omega⟩
            have hkl : k < l.length := by rw [HLL.out]; omega
            have h0l : 0 < l.length := by rw [HLL.out]; omega
            have hrow := HO.out
            rcases hrow.2 with ⟨_, h2⟩ | ⟨g, cap, cur, h1, _, _, hnc, hcm, _⟩
            · omega
            have hk9 : k < 9223372036854775807 := by unfold maxLen at hcm; omega
            clear hnc hcm
            injection h1 with ha _ hcap
            subst ha
            subst hcap
            have q1 := hrow.cells (g := g) rfl k (.int .i64 l[k]) (by unfold zCells; rw [List.getElem?_map, List.getElem?_eq_getElem hkl]; rfl)
            have q0 := hrow.cells (g := g) rfl 0 (.int .i64 l[0]) (by unfold zCells; rw [List.getElem?_map, List.getElem?_eq_getElem h0l]; rfl)
            rw [K.addr0] at q1 q0
            have z1 := HZ.out l[k] (List.getElem_mem hkl)
            have z0 := HZ.out l[0] (List.getElem_mem h0l)
            generalize l[k] = vk at *
            generalize l[0] = v0 at *
            have hs1 : ((k + 1 : Nat) : Int) - 1 = (k : Int) := by omega
            clear hrow hkl h0l
            obtain ⟨z11, z12, z13⟩ := z1
            obtain ⟨z01, z02, z03⟩ := z0
            have hp1 : (0 : Int) < (k : Int) + 1 := by omega
            have hp2 : decide ((0 : Int) < (k : Int) + 1) = true := decide_eq_true hp1
            have hp3 : (0 : Int) < ((k + 1 : Nat) : Int) := by omega
            have hp4 : (k : Int) + 1 - 1 = (k : Int) := by omega
            have hge : decide (8 ≤ vk - v0) = false := by rw [decide_eq_false_iff_not]; omega
            have hgt : decide ((n' : Int) < vk) = false := by rw [decide_eq_false_iff_not]; omega
            go_quiet (fail)
            go_wp2_with fail
            go_meet
            case rel => exact ⟨rfl, rfl, by (repeat (first | with_reducible exact Below.refl _ _ | ((with_reducible refine Below.alloc1 ?_ ?_ _); (· first | omega | (simp; done) | (simp; omega))) | (with_reducible refine Below.drew ?_) | (with_reducible refine below_drewN' ?_ _) | ((with_reducible refine Below.setCell1 ?_ ?_ _); (· first | omega | (simp; done) | (simp; omega))) | ((with_reducible refine Below.after (by assumption) ?_ ?_); (· first | omega | (simp; done) | (simp; omega)))))⟩
        case rest =>
          obtain ⟨rfl, rfl, hbx⟩ := hcut
          have HT6 := hid (HTG.out wc hbx)
          have hb06 := hb05.trans (hbx.mono hb05.size)
          have HC6 := hid (HC5.out.below hbx)
          clear HTG hbx hb05 HC5 HO HZ hLl HLL
          go_wp2_with fail
          refine HT6.out.mono ?_
          rintro e w7 ⟨rfl, hb7⟩
          have hb07 := hb06.trans (hb7.mono hb06.size)
          have HC7 := hid (HC6.out.below hb7)
          clear HT6 hb7 hb06 HC6
          go_upto_region 21 with fail
          go_cut [28, 101] from 28 to 102 (fun t28 t101 wx => t28 = .int .i64 (i : Nat) ∧ t101 = .bool false ∧ Below w7.heap.size w7 wx)
          case first =>
            rcases HT.out with rfl | rfl | rfl
            all_goals
              go_wp2_with fail
              go_meet
              case rel => exact ⟨rfl, rfl, by (repeat (first | with_reducible exact Below.refl _ _ | ((with_reducible refine Below.alloc1 ?_ ?_ _); (· first | omega | (simp; done) | (simp; omega))) | (with_reducible refine Below.drew ?_) | (with_reducible refine below_drewN' ?_ _) | ((with_reducible refine Below.setCell1 ?_ ?_ _); (· first | omega | (simp; done) | (simp; omega))) | ((with_reducible refine Below.after (by assumption) ?_ ?_); (· first | omega | (simp; done) | (simp; omega)))))⟩
          case rest =>
            obtain ⟨rfl, rfl, hbx⟩ := hcut
            have hb08 := hb07.trans (hbx.mono hb07.size)
            have HC8 := hid (HC7.out.below hbx)
            clear hb07 HC7 hbx
            go_wp2_with fail
            go_roundw
            case rel => exact ⟨i + 1, n', cl', by go_num, rfl, by omega, by omega, HC8, HA', hb08⟩
            case measure => simp [intOf]; omega
    · obtain rfl : i = mlen := by omega
      have hge : ¬ (i : Int) < (i : Int) := by omega
      obtain ⟨w4, hmk, hrow4, hg4⟩ := seen_make n (by omega) wr
      have hmk' : (Instr.makeSlice 22 (.int .i64 ((n : Int) + 1)) (.int .i64 ((n : Int) + 1))).run Tryz.prog wr = .ok (.slice (some ⟨wr.heap.size, 0, none⟩) (n + 1) (n + 1)) w4 := hmk
      clear hmk HM HML HC2 HD hb02
      have hb4 : Below wr.heap.size wr w4 := ⟨hg4.os, hg4.tape, hg4.output, hg4.size, fun k hk => hg4.block k hk (by simp)⟩
      have hG : wr.heap.size < w4.heap.size := (hrow4.lt wr.heap.size rfl).2
      have HMA : Hid (∀ g, cl.ma = some g → g.block < wr.heap.size) := hid fun g hg => (HCL.out.mem.lt g.block (by rw [hg]; rfl)).2
      have HC4 := hid (HCL.out.below hb4)
      have HR4 := hid hrow4
      have hb04 := hbw.trans (hb4.mono hbw.size)
      have hb04' := hbw.size
      have HNUM := hid HAD.out.num
      have HOS := hid (show cl.d.os.map Prod.fst = cl.os.map OItem.seq by simp [CL.d, List.map_map, Function.comp_def])
      clear hrow4 hg4 hb4 HCL hbw
      have HOP := hid (open_any w0.heap.size p cl w4 HC4.out)
      go_wp2_with fail
      refine HOP.out.mono ?_
      rintro e w5 ⟨ao, co, rfl, ho, hb5⟩
      have HOK := hid fun v (hv : v ∈ cl.os.map OItem.seq) => HNUM.out v (List.mem_append_left _ (by rw [HOS.out]; exact hv))
      have HNE : Hid (numsD cl.d = cl.os.map OItem.seq ++ cl.rs.map RItem.seq) := hid (by unfold numsD; rw [HOS.out]; rfl)
      have HAD1 := HAD
      have HO := hid ho
      have HC5 := hid (HC4.out.below hb5)
      have HR5 := hid (own_stay HR4.out fun g cur _ hc => hb5.block g (Array.getElem?_eq_some_iff.1 hc).1)
      have hb05 := hb04.trans (hb5.mono hb04.size)
      have hGw : w.heap.size ≤ wr.heap.size := hb04'
      have hG5 : wr.heap.size < w4.heap.size := hG
      clear HOP ho hb5 hb04 HC4 HR4 HNUM HOS hb04'
      have hll : (cl.os.map OItem.seq).length ≤ 1099511627776 := by rw [List.length_map]; exact HC5.out.os_len
      have hrl := HC5.out.rs_len
      generalize wr.heap.size = G at *
      generalize cl.os.map OItem.seq = l at *
      obtain ⟨L, hL⟩ : ∃ L, L = l.length := ⟨_, rfl⟩
      rw [← hL] at hll
      rw [← hL]
      have HO : Hid (w5.ownsRow w4.heap.size 2 1 (.slice ao L co) L (zCells l)) := hid (by rw [hL]; exact HO.out)
      have HLL := hid hL
      clear hL
      go_upto_region 26 with fail
      go_loopw [109] (fun t109 wx => ∃ k : Nat, t109 = .int .i64 (k : Nat) ∧ k ≤ L ∧ Hid (CAt w0.heap.size p cl wx) ∧ Hid (wx.ownsRow G 3 1 (.slice (some ⟨G, 0, none⟩) (n + 1) (n + 1)) (n + 1) (zCells (cntRow n (l.take k)))) ∧ Hid (wx.ownsRow w4.heap.size 2 1 (.slice ao L co) L (zCells l)) ∧ Below w.heap.size w wx) (fun t109 _ => L - (intOf t109).toNat)
      case atStart => exact ⟨0, rfl, Nat.zero_le _, HC5, hid (by rw [List.take_zero]; exact HR5.out), HO, hb05⟩
      case round =>
        obtain ⟨k, rfl, hk, HCx, HRx, HOx, hbx⟩ := hrel
        by_cases hlt : k < L
        · have hlt' : (k : Int) < (L : Int) := by omega
          have hkl : k < l.length := by rw [← HLL.out]; exact hlt
          have hrow := HOx.out
          rcases hrow.2 with ⟨_, h2⟩ | ⟨g, cap, cur, h1, _⟩
          · omega
          injection h1 with ha _ hcap
          subst ha; subst hcap
          have q1 := hrow.cells (g := g) rfl k (.int .i64 l[k]) (by unfold zCells; rw [List.getElem?_map, List.getElem?_eq_getElem hkl]; rfl)
          rw [K.addr0] at q1
          have hgl := hrow.lt g rfl
          obtain ⟨v1, v2⟩ := HOK.out l[k] (List.getElem_mem hkl)
          obtain ⟨vk, hvk⟩ : ∃ vk : Nat, l[k] = (vk : Int) := ⟨l[k].toNat, by omega⟩
          have htk : l.take (k + 1) = l.take k ++ [(vk : Int)] := by rw [List.take_add_one, List.getElem?_eq_getElem hkl, hvk]; rfl
          rw [hvk] at q1 v2
          obtain ⟨s1, s2, s3, s4⟩ := seen_step HRx.out (k := vk) (by omega)
          have hcn : (l.take k).count (vk : Int) ≤ k := Nat.le_trans List.count_le_length (by rw [List.length_take]; omega)
          rw [← htk] at s3
          have HC' := hid (CAt.ring_app HCx.out HRx.out HMA.out s4)
          have HO' := hid (own_stay hrow fun q cur hq hc => s4.block q (Array.getElem?_eq_some_iff.1 hc).1 fun e => by have e1 := Option.some.inj e; have e2 : g = q := Option.some.inj hq; omega)
          have hb' := hbx.grown s4 hbx.size (fun k hk => by cases hk; exact hGw)
          have HR' := hid s3
          have HB' := hid hb'
          clear s3 s4 hrow htk hb' hvk v1 hbx HCx HRx HOx
          generalize (l.take k).count (vk : Int) = cn at *
          have hvn : (vk : Int) < (n : Int) + 1 := by omega
          have hcn1 : (cn : Int) + 1 ≤ 1099511627777 := by omega
          go_wp2_with fail
          go_roundw
          case rel => exact ⟨k + 1, by go_num, by omega, HC', HR', HO', HB'.out⟩
          case measure => simp [intOf]; omega
        · obtain rfl : k = L := by omega
          have hge : ¬ (k : Int) < (k : Int) := by omega
          obtain ⟨wo, rfl⟩ : ∃ x, x = wr := ⟨_, rfl⟩
          go_upto_region 30 with fail
          have HRES := hid (results_any w0.heap.size p cl wo HCx.out)
          go_wp2_with fail
          refine HRES.out.mono ?_
          rintro e w6 ⟨a6, c6, rfl, ho6, hb6⟩
          have HRx' := hid (own_stay HRx.out fun g cur _ hc => hb6.block g (Array.getElem?_eq_some_iff.1 hc).1)
          have hb06 := hbx.trans (hb6.mono hbx.size)
          have HO6 := hid ho6
          have hG6 : G < wo.heap.size := (HRx.out.lt G rfl).2
          have HRN : Hid (∀ r ∈ cl.rs, r.seq ∈ numsD cl.d) := hid fun r hr => by rw [HNE.out]; exact List.mem_append_right _ (List.mem_map.2 ⟨r, hr, rfl⟩)
          have HNUM := hid HAD1.out.num
          have htk : l.take k = l := by rw [HLL.out]; exact List.take_length
          rw [htk] at HRx'
          clear HRES ho6 hb6 htk HOx HO HCx HOK HC5 HR5
          generalize hrs : cl.rs = rs at *
          have HRS := hid hrs
          clear hrs
          obtain ⟨N, hN⟩ : ∃ N, N = rs.length := ⟨_, rfl⟩
          rw [← hN] at hrl
          rw [← hN]
          have HO6 : Hid (w6.ownsRow wo.heap.size 59 3 (.slice a6 N c6) N (rCells rs)) := hid (by rw [hN]; exact HO6.out)
          have HNN := hid hN
          clear hN
          go_upto_region 31 with fail
          go_loopw [123] (fun t123 wx => ∃ j : Nat, t123 = .int .i64 (j : Nat) ∧ j ≤ N ∧ Hid (wx.ownsRow G 3 1 (.slice (some ⟨G, 0, none⟩) (n + 1) (n + 1)) (n + 1) (zCells (cntRow n (l ++ (rs.take j).map RItem.seq)))) ∧ Hid (wx.ownsRow wo.heap.size 59 3 (.slice a6 N c6) N (rCells rs)) ∧ Below w.heap.size w wx) (fun t123 _ => N - (intOf t123).toNat)
          case atStart => exact ⟨0, rfl, Nat.zero_le _, hid (by rw [List.take_zero, List.map_nil, List.append_nil]; exact HRx'.out), HO6, hb06⟩
          case round =>
            obtain ⟨j, rfl, hj, HRy, HOy, hby⟩ := hrel
            by_cases hjl : j < N
            · have hjl' : (j : Int) < (N : Int) := by omega
              have hkl : j < rs.length := by rw [← HNN.out]; exact hjl
              have hrow := HOy.out
              rcases hrow.2 with ⟨_, h2⟩ | ⟨g, cap, cur, h1, -⟩
              · omega
              injection h1 with ha _ hcap
              subst ha; subst hcap
              have hcl : ∀ t v, (rEnc rs[j])[t]? = some v → (rCells rs)[j * 3 + t]? = some v := fun t v hv => rCells_at hkl hv
              have q0 := hrow.cells (g := g) rfl (j * 3 + 0) _ (hcl 0 _ rfl)
              have q1 := hrow.cells (g := g) rfl (j * 3 + 1) _ (hcl 1 _ rfl)
              have q2 := hrow.cells (g := g) rfl (j * 3 + 2) _ (hcl 2 _ rfl)
              rw [K.addr0] at q0 q1 q2
              rw [Nat.add_zero] at q0
              have hgl := hrow.lt g rfl
              obtain ⟨v1, v2⟩ := HNUM.out _ (HRN.out rs[j] (List.getElem_mem hkl))
              have htk : (rs.take (j + 1)).map RItem.seq = (rs.take j).map RItem.seq ++ [rs[j].seq] := by rw [List.take_add_one, List.getElem?_eq_getElem hkl, List.map_append]; rfl
              clear hcl
              generalize rs[j] = r at *
              obtain ⟨rsq, rcd, rnm⟩ := r
              simp only at v1 v2 htk q0 q1 q2
              obtain ⟨vk, hvk⟩ : ∃ vk : Nat, rsq = (vk : Int) := ⟨rsq.toNat, by omega⟩
              subst hvk
              have hv1 : ¬ (vk : Int) < 1 := by omega
              have hv2 : ¬ (n : Int) < (vk : Int) := by omega
              have hbz : Below wr.heap.size wr (wr.alloc (.cells #[.int .i64 vk, .int .i64 rcd, .int .i64 rnm] 59)) := Below.alloc1 (Nat.le_refl _) (Below.refl _ _) _
              have hRz := own_stay HRy.out fun g cur _ hc => hbz.block g (Array.getElem?_eq_some_iff.1 hc).1
              have hOz := own_stay hrow fun g cur _ hc => hbz.block g (Array.getElem?_eq_some_iff.1 hc).1
              have hby' := hby.trans (hbz.mono hby.size)
              obtain ⟨s1, s2, s3, s4⟩ := seen_step hRz (k := vk) (by omega)
              have hcn : (l ++ (rs.take j).map RItem.seq).count (vk : Int) ≤ k + j := Nat.le_trans List.count_le_length (by rw [List.length_append, List.length_map, List.length_take, ← HLL.out]; omega)
              have hO' := own_stay hOz fun q cur hq hc => s4.block q (Array.getElem?_eq_some_iff.1 hc).1 fun e => by have e1 := Option.some.inj e; have e2 : g = q := Option.some.inj hq; omega
              have hb' := hby'.grown s4 hby'.size (fun k hk => by cases hk; exact hGw)
              rw [List.append_assoc, ← htk] at s3
              have HR' := hid s3
              have HO' := hid hO'
              have HB' := hid hb'
              have hgx := hgl.2
              clear s3 s4 hrow htk hb' hO' hRz hOz hby hby' HRy HOy hbz v1 hgl
              generalize (l ++ (rs.take j).map RItem.seq).count (vk : Int) = cn at *
              have hvn : (vk : Int) < (n : Int) + 1 := by omega
              have hcn1 : (cn : Int) + 1 ≤ 2199023255553 := by omega
              go_upto_region 33 with fail
              have hW := hid (rfl : wr.alloc (.cells #[.int .i64 vk, .int .i64 rcd, .int .i64 rnm] 59) = wr.alloc (.cells #[.int .i64 vk, .int .i64 rcd, .int .i64 rnm] 59))
              have hwc : (wr.alloc (.cells #[.int .i64 vk, .int .i64 rcd, .int .i64 rnm] 59)).cell? ⟨wr.heap.size, 0, none⟩ = some (.int .i64 vk) := by simp [go_sem]
              have hwz : (wr.alloc (.cells #[.int .i64 vk, .int .i64 rcd, .int .i64 rnm] 59)).heap.size = wr.heap.size + 1 := by simp
              generalize wr.alloc (.cells #[.int .i64 vk, .int .i64 rcd, .int .i64 rnm] 59) = W1 at *
              clear q0 q1 q2 hW
              go_wp2_with fail
              go_roundw
              case rel => exact ⟨j + 1, by go_num, by omega, HR', HO', HB'.out⟩
              case measure => simp [intOf]; omega
            · obtain rfl : j = N := by omega
              have hge : ¬ (j : Int) < (j : Int) := by omega
              have hall : l ++ (rs.take j).map RItem.seq = numsD cl.d := by rw [HNE.out, HNN.out, List.take_length]
              have hRz := HRy.out
              rw [hall] at hRz
              have HRz := hid hRz
              have hGx := (hRz.lt G rfl).2
              clear hall hRz HRy HOy
              rcases Nat.eq_zero_or_pos n with hn0 | hn0
              · subst hn0
                go_upto_region 38 with fail
                go_loopw [147] (fun t147 wx => t147 = .int .i64 0 ∧ Below wr.heap.size wr wx) (fun _ _ => 0)
                case atStart => exact ⟨rfl, Below.refl _ _⟩
                case round =>
                  obtain ⟨rfl, hbz⟩ := hrel
                  have hfin := hby.trans (hbz.mono hby.size)
                  go_wp2_with fail
                  go_ret
                  exact ⟨rfl, hfin⟩
              have hn1 : ¬ n = 0 := by omega
              go_upto_region 38 with fail
              go_loopw [147] (fun t147 wx => ∃ q : Nat, t147 = .int .i64 (q : Nat) ∧ q ≤ n ∧ Below wr.heap.size wr wx) (fun t147 _ => n - (intOf t147).toNat)
              case atStart => exact ⟨0, rfl, Nat.zero_le _, Below.refl _ _⟩
              case round =>
                obtain ⟨q, rfl, hq, hbz⟩ := hrel
                by_cases hql : q < n
                · have hql' : (q : Int) < (n : Int) := by omega
                  have qc := HRz.out.cells (g := G) rfl (q + 1) (.int .i64 1) (by unfold zCells; rw [List.getElem?_map, cntRow_one HAD1.out hql]; rfl)
                  rw [K.addr0] at qc
                  have qd := (hbz.cell (p := ⟨G, q + 1, none⟩) hGx).trans qc
                  rw [Nat.add_comm] at qd
                  have hsz := hbz.size
                  clear qc
                  go_wp2_with fail
                  go_roundw
                  case rel => exact ⟨q + 1, by go_num, by omega, hbz⟩
                  case measure => simp [intOf]; omega
                · obtain rfl : q = n := by omega
                  have hge2 : ¬ (q : Int) < (q : Int) := by omega
                  have hfin := hby.trans (hbz.mono hby.size)
                  go_wp2_with fail
                  go_ret
                  exact ⟨rfl, hfin⟩
end Go.Proofs.YtekmadgacepdfaaGreat.U
