/- The document's order of a history. -/
import Derived.Test.YtekmadgacepdfaaGreatMTQ
namespace Go.Proofs.YtekmadgacepdfaaGreat.T
set_option linter.unusedVariables false
open Go.RowKit Fl Go.Shelf
set_option linter.unusedSimpArgs false

set_option maxRecDepth 100000 in
theorem has_any (a : Option Addr) (c n : Nat) (l : List Int) (m : Int) (v : Bool) (w : World) (hn : l.length = n) (ha : NAt w a l) (hv : l.contains m = v) :
  Calls Tryz.prog 60 #[.slice a n c, .int .i64 m] w (Ret (.bool v) w) := by
 have hm := ha.len
 rw [hn] at hm
 unfold maxLen at hm
 have HA := hid ha
 have HN := hid hn
 have HV := hid hv
 clear ha hn hv
 go_enter Tryz.func60, Tryz.ntmps60
 go_upto_region 2 with fail
 go_loopw [5] (fun t5 wr => ∃ k : Nat, t5 = .int .i64 (k : Nat) ∧ k ≤ n ∧ Hid (∀ j : Nat, j < k → l[j]? ≠ some m) ∧ Below w.heap.size w wr) (fun t5 _ => n - (intOf t5).toNat)
 case atStart => exact ⟨0, rfl, Nat.zero_le _, hid fun j hj => absurd hj (Nat.not_lt_zero _), Below.refl _ _⟩
 case round =>
  obtain ⟨k, rfl, hk, HJ, hbw⟩ := hrel
  by_cases hlt : k < n
  ·have hkl : k < l.length := by rw [HN.out]; exact hlt
   have hlt' : (k : Int) < (n : Int) := by omega
   have hkx : Hid (l[k]? = some (l[k]?.getD 0)) := hid (by rw [List.getElem?_eq_getElem hkl]; rfl)
   rcases (HA.out.below hbw).row with h0 | ⟨b, o, ha, hbl, hc⟩
   ·rw [h0] at hkl; simp at hkl
   subst ha
   have hc := hc k hkl
   clear hkl
   generalize l[k]?.getD 0 = x at *
   by_cases hx : x = m
   ·have hvt : v = true := by
     rw [← HV.out, List.contains_iff_mem, ← hx]
     exact List.mem_of_getElem? hkx.out
    subst hvt
    have hq : (x == m) = true := by simpa using hx
    clear hx
    go_wp2_with fail
    go_ret
    exact ⟨rfl, hbw⟩
   ·have hq : (x == m) = false := by simpa using hx
    have HJ2 : Hid (∀ j : Nat, j < k + 1 → l[j]? ≠ some m) := hid fun j hj e => by
     by_cases hjk : j < k
     ·exact HJ.out j hjk e
     ·obtain rfl : j = k := by omega
      rw [hkx.out] at e
      exact hx (Option.some.inj e)
    clear hx
    go_wp2_with fail
    go_roundw
    case rel => exact ⟨k + 1, by go_num, by omega, HJ2, hbw⟩
    case measure => simp [intOf]; omega
  ·obtain rfl : k = n := by omega
   have hge : ¬ (k : Int) < (k : Int) := by omega
   have hvf : v = false := by
    rw [← HV.out, ← Bool.not_eq_true, List.contains_iff_mem]
    intro hmem
    obtain ⟨j, hj⟩ := List.mem_iff_getElem?.1 hmem
    have := (List.getElem?_eq_some_iff.1 hj).1
    exact HJ.out j (by have := HN.out; omega) hj
   subst hvf
   go_wp2_with fail
   go_ret
   exact ⟨rfl, hbw⟩

/-! Plain. -/
def leftO (n : Nat) (out : List Int) : List Int := (upN n).filter fun m => !out.contains m
/-- May h[j] come, behind out? -/
def okF (h : List DoneV) (out : List Int) (j k : Nat) : Bool := out.contains ((k : Int) + 1) || !leadsV (h[k]?.getD default) (h[j]?.getD default)
def okO (h : List DoneV) (out : List Int) (j : Nat) : Bool := !out.contains ((j : Int) + 1) && (List.range h.length).all fun k => okF h out j k
theorem leftO_nil (n : Nat) : leftO n [] = upN n := by unfold leftO; rw [List.filter_eq_self]; intro _ _; rfl
theorem leftO_snoc (n : Nat) (out : List Int) (m : Int) : leftO n (out ++ [m]) = (leftO n out).erase m := by
 have hnd : (leftO n out).Nodup := (rise_nodup (upN_rise n)).sublist List.filter_sublist
 rw [hnd.erase_eq_filter]
 unfold leftO
 rw [List.filter_filter]
 refine List.filter_congr fun x _ => ?_
 rw [Bool.eq_iff_iff]
 simp [List.contains_iff_mem]
 exact ⟨fun ⟨a, b⟩ => ⟨b, a⟩, fun ⟨a, b⟩ => ⟨b, a⟩⟩
theorem lead_at {h : List DoneV} {j k : Nat} (hj : j < h.length) (hk : k < h.length) : lead h ((k : Int) + 1) ((j : Int) + 1) = leadsV (h[k]?.getD default) (h[j]?.getD default) := by
 unfold lead atN
 rw [show ((k : Int) + 1 - 1).toNat = k by omega, show ((j : Int) + 1 - 1).toNat = j by omega, List.getElem?_eq_getElem hj, List.getElem?_eq_getElem hk]
 rfl
theorem find_ok (h : List DoneV) (out : List Int) : (leftO h.length out).find? (freeN (lead h) (leftO h.length out)) = ((List.range h.length).find? (okO h out)).map fun (j : Nat) => (j : Int) + 1 := by
 have e1 : (leftO h.length out).find? (freeN (lead h) (leftO h.length out)) = (upN h.length).find? fun m => !out.contains m && freeN (lead h) (leftO h.length out) m := by
  conv => lhs; arg 2; unfold leftO
  rw [List.find?_filter]
  congr 1
  funext m
  simp
 rw [e1]
 conv => lhs; unfold upN
 rw [List.find?_map]
 congr 1
 have cg : ∀ {l : List Nat} {p q : Nat → Bool}, (∀ x ∈ l, p x = q x) → l.find? p = l.find? q := by
  intro l p q
  induction l with
  | nil => intro _; rfl
  | cons a l ih =>
   intro H
   rw [List.find?_cons, List.find?_cons, H a (List.mem_cons_self ..), ih fun x hx => H x (List.mem_cons_of_mem _ hx)]
 refine cg fun j hj => ?_
 have hjl := List.mem_range.1 hj
 show (!out.contains ((j : Int) + 1) && freeN (lead h) (leftO h.length out) ((j : Int) + 1)) = okO h out j
 unfold okO
 congr 1
 unfold freeN leftO upN
 rw [List.any_filter, List.any_map, Bool.eq_iff_iff, Bool.not_eq_true', List.any_eq_false, List.all_eq_true]
 refine forall_congr' fun k => ?_
 refine forall_congr' fun hk => ?_
 have hkl := List.mem_range.1 hk
 show ¬ ((!out.contains ((k : Int) + 1) && lead h ((k : Int) + 1) ((j : Int) + 1)) = true) ↔ okF h out j k = true
 rw [lead_at hjl hkl]
 unfold okF
 cases out.contains ((k : Int) + 1) <;> cases leadsV (h[k]?.getD default) (h[j]?.getD default) <;> simp
/-- How far the document's order has come. -/
structure OrdS (h : List DoneV) (out : List Int) : Prop where
 eq : sortV h = (out ++ (topo (lead h) (leftO h.length out).length (leftO h.length out)).1, (topo (lead h) (leftO h.length out).length (leftO h.length out)).2)
 len : out.length + (leftO h.length out).length = h.length
theorem OrdS.init {h : List DoneV} (hr : rightV h = true) : OrdS h [] := by
 refine ⟨?_, ?_⟩
 ·unfold sortV
  rw [if_pos hr, leftO_nil, upN_len]; rfl
 ·rw [leftO_nil, upN_len]; simp
theorem OrdS.next {h : List DoneV} {out : List Int} (H : OrdS h out) {j : Nat} (hj : (List.range h.length).find? (okO h out) = some j) : OrdS h (out ++ [(j : Int) + 1]) := by
 have hf : (leftO h.length out).find? (freeN (lead h) (leftO h.length out)) = some ((j : Int) + 1) := by rw [find_ok, hj]; rfl
 have hmem := List.mem_of_find?_eq_some hf
 have hl := List.length_erase_of_mem hmem
 have h0 := List.length_pos_of_mem hmem
 have hlen := H.len
 refine ⟨?_, ?_⟩
 ·rw [H.eq, topo_step hf, leftO_snoc]
  simp
 ·rw [leftO_snoc, hl, List.length_append, List.length_singleton]; omega
theorem OrdS.stop {h : List DoneV} {out : List Int} (H : OrdS h out) (hlt : out.length < h.length) (hj : (List.range h.length).find? (okO h out) = none) : ((sortV h).1, decide ((sortV h).2 = [])) = (out, false) := by
 have hf : (leftO h.length out).find? (freeN (lead h) (leftO h.length out)) = none := by rw [find_ok, hj]; rfl
 have hlen := H.len
 rw [H.eq, topo_end hf]
 have : leftO h.length out ≠ [] := fun e => by rw [e] at hlen; simp at hlen; omega
 simp [this]
theorem OrdS.done {h : List DoneV} {out : List Int} (H : OrdS h out) (hge : h.length ≤ out.length) : ((sortV h).1, decide ((sortV h).2 = [])) = (out, true) := by
 have hlen := H.len
 have : leftO h.length out = [] := List.eq_nil_of_length_eq_zero (by omega)
 rw [H.eq, this]
 simp [topo]
/-- The first that may come, as far as they have been looked at. -/
def FirstO (h : List DoneV) (out : List Int) (i : Nat) (nx : Int) : Prop := (nx = 0 ∧ ∀ j : Nat, j < i → okO h out j = false) ∨ ∃ j : Nat, i = j + 1 ∧ nx = (j : Int) + 1 ∧ okO h out j = true ∧ ∀ j' : Nat, j' < j → okO h out j' = false
theorem find_range {p : Nat → Bool} {n j : Nat} (hj : j < n) (hp : p j = true) (hn : ∀ j' : Nat, j' < j → p j' = false) : (List.range n).find? p = some j := by
 rw [List.find?_eq_some_iff_getElem]
 refine ⟨hp, j, by simpa using hj, by simp, fun k hk => ?_⟩
 rw [List.getElem_range, hn k hk]; rfl
set_option maxHeartbeats 4000000 in
set_option maxRecDepth 100000 in
theorem refOrder_any (a : Option Addr) (c n : Nat) (h : List DoneV) (w : World) (hn : h.length = n) (hh : HAt w a h) (hr : rightV h = true) :
  Calls Tryz.prog 33 #[.slice a n c] w (OrderRet ((sortV h).1, decide ((sortV h).2 = [])) w) := by
 have hm := right_len hr
 rw [hn] at hm
 have HX := hid hh
 have HN := hid hn
 have HNUM := hid fun (i : Nat) (d : DoneV) (hd : h[i]? = some d) => (right_num hr hd).1
 have HI0 := hid (OrdS.init hr)
 obtain ⟨R, hR⟩ : ∃ R, R = ((sortV h).1, decide ((sortV h).2 = [])) := ⟨_, rfl⟩
 rw [← hR]
 have HR := hid hR
 clear hh hn hr hR
 go_enter Tryz.func33, Tryz.ntmps33
 go_upto_region 2 with fail
 have hO0 : (w.alloc (.cells #[] 2)).ownsRow w.heap.size 2 1 (.slice (some ⟨w.heap.size, 0, none⟩) 0 0) 0 (nCells []) := World.ownsRow_made w #[] 0 (Nat.le_refl _) (by unfold maxLen; omega) rfl
 have HO0 := hid hO0
 clear hO0
 go_loopw [4] (fun t4 wr => ∃ (out : List Int) (ao : Option Addr) (co L : Nat), t4 = .slice ao L co ∧ L ≤ n ∧ Hid (out.length = L) ∧ Hid (OrdS h out) ∧ Hid (wr.ownsRow w.heap.size 2 1 (.slice ao L co) L (nCells out)) ∧ Below w.heap.size w wr) (fun t4 _ => n - lenV t4)
 case atStart => exact ⟨[], _, _, _, rfl, Nat.zero_le _, hid rfl, HI0, HO0, by exact below_auto⟩
 case round =>
  obtain ⟨out, ao, co, L, rfl, hL, HL, HOS, HOW, hbo⟩ := hrel
  clear HO0 HI0
  by_cases hlt : L < n
  rotate_left
  ·obtain rfl : L = n := by omega
   have hge : ¬ (L : Int) < (L : Int) := by omega
   have hd := HR.out.trans (HOS.out.done (by rw [HL.out, HN.out]; exact Nat.le_refl _))
   subst hd
   have HFO : Hid (OrderRet (out, true) w (.returned (.tuple #[.slice ao L co, .bool true])) wr) := hid ⟨ao, co, by rw [HL.out], by rw [HL.out]; exact HOW.out, hbo⟩
   clear HR
   go_wp2_with fail
   refine bodyPost_ret (v := .tuple #[.slice ao L co, .bool true]) (by simp [results, Tryz.results33, go_sem]) rfl ?_
   exact HFO.out
  have hlt' : (L : Int) < (n : Int) := by omega
  obtain ⟨wo, rfl⟩ : ∃ x, x = wr := ⟨_, rfl⟩
  have HNA := hid (own_nat HL.out HOW.out (by unfold maxLen; omega))
  have HHAS := hid fun (m : Int) W (hb : Below wo.heap.size wo W) => has_any ao co L out m _ W HL.out (HNA.out.below hb) rfl
  have HH := hid fun W (hb : Below wo.heap.size wo W) => HX.out.below (hbo.trans (hb.mono hbo.size))
  have hwo := hbo.size
  clear HNA
  go_upto_region 5 with fail
  go_loopw [5, 6] (fun t5 t6 wx => ∃ (i : Nat) (nx : Int), t6 = .int .i64 (i : Nat) ∧ t5 = .int .i64 nx ∧ i ≤ n ∧ Hid (FirstO h out i nx) ∧ Below wo.heap.size wo wx) (fun _ t6 _ => n - (intOf t6).toNat)
  case atStart => exact ⟨0, 0, rfl, rfl, Nat.zero_le _, hid (.inl ⟨rfl, fun j hj => absurd hj (Nat.not_lt_zero _)⟩), Below.refl _ _⟩
  case round =>
   obtain ⟨i, nx, rfl, rfl, hi, HF, hbi⟩ := hrel
   by_cases hnx : nx = 0
   rotate_left
   ·have hq : (nx == 0) = false := by simpa using hnx
    rcases HF.out with ⟨h1, _⟩ | ⟨j, rfl, rfl, h3, h4⟩
    ·exact absurd h1 hnx
    have hnext := HOS.out.next (find_range (by rw [HN.out]; omega) h3 h4)
    have hO1 := own_keep HOW.out fun q cur _ hq => hbi.block q (Array.getElem?_eq_some_iff.1 hq).1
    have hbwi := hbo.trans (hbi.mono hwo)
    obtain ⟨a2, c2, w2, hr2, hO2, hb2, -, -⟩ := appN ((j : Int) + 1) HL.out hO1 hbwi.size (by omega)
    have HO2 := hid hO2
    have HB2 := hid (hbwi.trans hb2)
    have HL2 : Hid ((out ++ [(j : Int) + 1]).length = L + 1) := hid (by rw [List.length_append, HL.out]; rfl)
    have HOS2 := hid hnext
    clear hnext hO1 hO2 hb2 h3 h4 HF HHAS HH hnx
    by_cases hjn : j + 1 < n
    ·have hj2 : ((j : Int) + 1) < (n : Int) := by omega
     have hj3 : ((j + 1 : Nat) : Int) < (n : Int) := by omega
     go_wp2_with (at_builtin; refine Lib.wpList_append_run _ rfl _ _ _ _ rfl _ _ rfl rfl _ _ (hr2 _) ?_)
     go_roundw
     case rel => exact ⟨_, a2, c2, L + 1, rfl, by omega, HL2, HOS2, HO2, HB2.out⟩
     case measure => simp [lenV]; omega
    ·have hj2 : ¬ ((j : Int) + 1) < (n : Int) := by omega
     have hj3 : ¬ ((j + 1 : Nat) : Int) < (n : Int) := by omega
     go_wp2_with (at_builtin; refine Lib.wpList_append_run _ rfl _ _ _ _ rfl _ _ rfl rfl _ _ (hr2 _) ?_)
     go_roundw
     case rel => exact ⟨_, a2, c2, L + 1, rfl, by omega, HL2, HOS2, HO2, HB2.out⟩
     case measure => simp [lenV]; omega
   subst hnx
   have HNO : Hid (∀ j : Nat, j < i → okO h out j = false) := hid (by
    rcases HF.out with ⟨_, h2⟩ | ⟨j, _, h2, _⟩
    ·exact h2
    ·omega)
   clear HF
   by_cases hin : i < n
   rotate_left
   ·obtain rfl : i = n := by omega
    have hge : ¬ (i : Int) < (i : Int) := by omega
    have hnone : (List.range h.length).find? (okO h out) = none := by
     rw [List.find?_eq_none]
     intro j hj
     rw [HNO.out j (by rw [← HN.out]; exact List.mem_range.1 hj)]; simp
    have hd := HR.out.trans (HOS.out.stop (by rw [HL.out, HN.out]; exact hlt) hnone)
    subst hd
    have hO1 := own_keep HOW.out fun q cur _ hq => hbi.block q (Array.getElem?_eq_some_iff.1 hq).1
    have HFO : Hid (OrderRet (out, false) w (.returned (.tuple #[.slice ao L co, .bool false])) wr) := hid ⟨ao, co, by rw [HL.out], by rw [HL.out]; exact hO1, hbo.trans (hbi.mono hwo)⟩
    clear HR hO1 hnone
    go_wp2_with fail
    refine bodyPost_ret (v := .tuple #[.slice ao L co, .bool false]) (by simp [results, Tryz.results33, go_sem]) rfl ?_
    exact HFO.out
   have hin' : (i : Int) < (n : Int) := by omega
   have hkl : i < h.length := by rw [HN.out]; exact hin
   have hkx : Hid (h[i]? = some (h[i]?.getD default)) := hid (by rw [List.getElem?_eq_getElem hkl]; rfl)
   have HSX := hid fun W (hb : Below wo.heap.size wo W) => (HH.out W hb).sub i hkl
   have HCX := hid fun W (hb : Below wo.heap.size wo W) => (HH.out W hb).row
   have HI := hid hkl
   have HOKF := hid fun k : Nat => (show okF h out i k = (out.contains ((k : Int) + 1) || !leadsV (h[k]?.getD default) (h[i]?.getD default)) from rfl)
   have HOKO := hid (show okO h out i = (!out.contains ((i : Int) + 1) && (List.range h.length).all fun k => okF h out i k) from rfl)
   clear hkl
   generalize hxe : h[i]?.getD default = x at *
   have HXE := hid hxe
   clear hxe
   have hxn := HNUM.out i x hkx.out
   have hil : i < h.length := HI.out
   rcases HCX.out wr hbi with h0 | ⟨b, o, ha, hbl, hc⟩
   ·rw [h0] at hil; simp at hil
   have c0 := hc i hil 0 _ rfl
   rw [HXE.out] at c0
   have c0 : wr.cell? ⟨b, o + i * 7, none⟩ = some (.int .i64 x.num) := c0
   rw [hxn] at c0
   have HA := hid ha
   subst ha
   clear hc hil
   obtain ⟨hb1v, hhb⟩ : ∃ v, out.contains ((i : Int) + 1) = v := ⟨_, rfl⟩
   have HH1 := HHAS.out ((i : Int) + 1) wr hbi
   rw [hhb] at HH1
   have HHB := hid hhb
   have HXN := hid hxn
   clear hhb hxn
   cases hb1v
   rotate_left
   ·have HNO2 : Hid (FirstO h out (i + 1) 0) := hid (.inl ⟨rfl, fun j hj => by
     by_cases hji : j < i
     ·exact HNO.out j hji
     ·obtain rfl : j = i := by omega
      rw [HOKO.out, HHB.out]; rfl⟩)
    go_wp2_with (go_at_call 60; (with_reducible refine (HH1).mono ?_); rintro e w1 ⟨rfl, hb1⟩; obtain ⟨hc1, hf1⟩ := bcell hb1; (try simp only [World.heap_drewN, World.cell?_drewN, World.frozen?_drewN] at hc1 hf1); have hz1 := hb1.size; (try simp at hz1); (try have hy1_0 : w.heap.size < w1.heap.size := by omega); (try have hy1_1 : w.heap.size + 1 < w1.heap.size := by omega); (try have hx1_0 : w.heap.size ≤ w1.heap.size := by omega); (try have hx1_1 : w.heap.size + 1 ≤ w1.heap.size := by omega); (try have hu1_wr_0 : wr.heap.size < w1.heap.size := by omega))
    go_roundw
    case rel => exact ⟨i + 1, 0, by go_num, rfl, by omega, HNO2, hbi.trans (hb1.mono hbi.size)⟩
    case measure => simp [intOf]; omega
   ·go_upto_region 10 with (go_at_call 60; (with_reducible refine (HH1).mono ?_); rintro e w1 ⟨rfl, hb1⟩; obtain ⟨hc1, hf1⟩ := bcell hb1; (try simp only [World.heap_drewN, World.cell?_drewN, World.frozen?_drewN] at hc1 hf1); have hz1 := hb1.size; (try simp at hz1); (try have hy1_0 : w.heap.size < w1.heap.size := by omega); (try have hy1_1 : w.heap.size + 1 < w1.heap.size := by omega); (try have hx1_0 : w.heap.size ≤ w1.heap.size := by omega); (try have hx1_1 : w.heap.size + 1 ≤ w1.heap.size := by omega); (try have hu1_wr_0 : wr.heap.size < w1.heap.size := by omega))
    have hbi1 := hbi.trans (hb1.mono hbi.size)
    clear c0 HH1 hc1 hf1
    go_loopw [7, 8] (fun t7 t8 wy => ∃ (k : Nat) (fr : Bool), t8 = .int .i64 (k : Nat) ∧ t7 = .bool fr ∧ k ≤ n ∧ Hid (fr = (List.range k).all fun k => okF h out i k) ∧ Below wo.heap.size wo wy) (fun _ t8 _ => n - (intOf t8).toNat)
    case atStart => exact ⟨0, true, rfl, rfl, Nat.zero_le _, hid rfl, hbi1⟩
    case round =>
     obtain ⟨k, fr, rfl, rfl, hk, HFR, hbk⟩ := hrel
     clear hbi hbi1 hb1
     have hil : i < h.length := HI.out
     rcases HCX.out wr hbk with h0 | ⟨b', o', ha, hbl', hc⟩
     ·rw [h0] at hil; simp at hil
     cases ha
     have hcx := hc i hil
     rw [HXE.out] at hcx
     have c0 : wr.cell? ⟨b, o + i * 7, none⟩ = some (.int .i64 x.num) := hcx 0 _ rfl
     have c1 := hcx 1 _ rfl
     have c2 := hcx 2 _ rfl
     have c3 := hcx 3 _ rfl
     have c4 := hcx 4 _ rfl
     have c5 := hcx 5 _ rfl
     have c6 := hcx 6 _ rfl
     clear hcx hil
     have hsz := hbk.size
     by_cases hkn : k < n
     ·have hkl : k < h.length := by rw [HN.out]; exact hkn
      have hkn' : (k : Int) < (n : Int) := by omega
      have hky : Hid (h[k]? = some (h[k]?.getD default)) := hid (by rw [List.getElem?_eq_getElem hkl]; rfl)
      have hcy := hc k hkl
      have HSY := hid fun W (hb : Below wo.heap.size wo W) => (HH.out W hb).sub k hkl
      have hof := HOKF.out k
      clear hc hkl
      generalize h[k]?.getD default = y at *
      have hyn := HNUM.out k y hky.out
      have d0 : wr.cell? ⟨b, o + k * 7, none⟩ = some (.int .i64 y.num) := hcy 0 _ rfl
      have d1 := hcy 1 _ rfl
      have d2 := hcy 2 _ rfl
      have d3 := hcy 3 _ rfl
      have d4 := hcy 4 _ rfl
      have d5 := hcy 5 _ rfl
      have d6 := hcy 6 _ rfl
      clear hcy
      have HHK := fun W (hb : Below wr.heap.size wr W) => HHAS.out y.num W (hbk.trans (hb.mono hsz))
      obtain ⟨hv, hhv⟩ : ∃ v, out.contains y.num = v := ⟨_, rfl⟩
      obtain ⟨lv, hlv⟩ : ∃ v, leadsV y x = v := ⟨_, rfl⟩
      have HLD := fun W (hb : Below wr.heap.size wr W) => refLeads_any y x lv W (HSY.out W (hbk.trans (hb.mono hsz))) (HSX.out W (hbk.trans (hb.mono hsz))) hlv
      rw [← hyn, hhv, hlv] at hof
      rw [hhv] at HHK
      have HALL : Hid ((fr && (hv || !lv)) = (List.range (k + 1)).all fun k => okF h out i k) := hid (by
       rw [List.range_succ, List.all_append, ← HFR.out]
       simp [hof])
      clear hhv hlv hof hyn
      cases fr
      ·clear HHK HLD
       go_upto_region 12 with fail
       (refine wp_region_ext (by kernel_rfl) (by kernel_rfl) ?_; (repeat (go_big_quiet_step (first | fail))); refine wpQuiet_nil ?_; rintro w2 ⟨x2, hx2⟩; have hb2 := x2.b; rw [← hx2] at hb2; clear hx2 x2; obtain ⟨hc2, hf2⟩ := bcell hb2; (try simp only [World.heap_drewN, World.cell?_drewN, World.frozen?_drewN] at hc2 hf2); have hz2 := hb2.size; (try simp at hz2); (try have hy2_0 : w.heap.size < w2.heap.size := by omega); (try have hy2_1 : w.heap.size + 1 < w2.heap.size := by omega); (try have hx2_0 : w.heap.size ≤ w2.heap.size := by omega); (try have hx2_1 : w.heap.size + 1 ≤ w2.heap.size := by omega))
       go_wp2_with fail
       go_roundw
       case rel => exact ⟨k + 1, false, by go_num, rfl, by omega, hid (by rw [← HALL.out]; rfl), hbk.trans (hb2.mono hsz)⟩
       case measure => simp [intOf]; omega
      ·cases hv
       ·cases lv
        ·go_upto_region 12 with fail
         (refine wp_region_ext (by kernel_rfl) (by kernel_rfl) ?_; (repeat (go_big_quiet_step (first | (go_at_call 60; with_reducible exact Calls.ext_of (HHK _ (Ext.b _))) | (go_at_call 30; with_reducible exact Calls.ext_of (HLD _ (Ext.b _)))))); refine wpQuiet_nil ?_; rintro w2 ⟨x2, hx2⟩; have hb2 := x2.b; rw [← hx2] at hb2; clear hx2 x2; obtain ⟨hc2, hf2⟩ := bcell hb2; (try simp only [World.heap_drewN, World.cell?_drewN, World.frozen?_drewN] at hc2 hf2); have hz2 := hb2.size; (try simp at hz2); (try have hy2_0 : w.heap.size < w2.heap.size := by omega); (try have hy2_1 : w.heap.size + 1 < w2.heap.size := by omega); (try have hx2_0 : w.heap.size ≤ w2.heap.size := by omega); (try have hx2_1 : w.heap.size + 1 ≤ w2.heap.size := by omega))
         go_wp2_with fail
         go_roundw
         case rel => exact ⟨k + 1, true, by go_num, rfl, by omega, hid (by rw [← HALL.out]; rfl), hbk.trans (hb2.mono hsz)⟩
         case measure => simp [intOf]; omega
        ·go_upto_region 12 with fail
         (refine wp_region_ext (by kernel_rfl) (by kernel_rfl) ?_; (repeat (go_big_quiet_step (first | (go_at_call 60; with_reducible exact Calls.ext_of (HHK _ (Ext.b _))) | (go_at_call 30; with_reducible exact Calls.ext_of (HLD _ (Ext.b _)))))); refine wpQuiet_nil ?_; rintro w2 ⟨x2, hx2⟩; have hb2 := x2.b; rw [← hx2] at hb2; clear hx2 x2; obtain ⟨hc2, hf2⟩ := bcell hb2; (try simp only [World.heap_drewN, World.cell?_drewN, World.frozen?_drewN] at hc2 hf2); have hz2 := hb2.size; (try simp at hz2); (try have hy2_0 : w.heap.size < w2.heap.size := by omega); (try have hy2_1 : w.heap.size + 1 < w2.heap.size := by omega); (try have hx2_0 : w.heap.size ≤ w2.heap.size := by omega); (try have hx2_1 : w.heap.size + 1 ≤ w2.heap.size := by omega))
         go_wp2_with fail
         go_roundw
         case rel => exact ⟨k + 1, false, by go_num, rfl, by omega, hid (by rw [← HALL.out]; rfl), hbk.trans (hb2.mono hsz)⟩
         case measure => simp [intOf]; omega
       ·clear HLD
        go_upto_region 12 with fail
        (refine wp_region_ext (by kernel_rfl) (by kernel_rfl) ?_; (repeat (go_big_quiet_step (first | (go_at_call 60; with_reducible exact Calls.ext_of (HHK _ (Ext.b _)))))); refine wpQuiet_nil ?_; rintro w2 ⟨x2, hx2⟩; have hb2 := x2.b; rw [← hx2] at hb2; clear hx2 x2; obtain ⟨hc2, hf2⟩ := bcell hb2; (try simp only [World.heap_drewN, World.cell?_drewN, World.frozen?_drewN] at hc2 hf2); have hz2 := hb2.size; (try simp at hz2); (try have hy2_0 : w.heap.size < w2.heap.size := by omega); (try have hy2_1 : w.heap.size + 1 < w2.heap.size := by omega); (try have hx2_0 : w.heap.size ≤ w2.heap.size := by omega); (try have hx2_1 : w.heap.size + 1 ≤ w2.heap.size := by omega))
        go_wp2_with fail
        go_roundw
        case rel => exact ⟨k + 1, true, by go_num, rfl, by omega, hid (by rw [← HALL.out]; rfl), hbk.trans (hb2.mono hsz)⟩
        case measure => simp [intOf]; omega
     ·obtain rfl : k = n := by omega
      have hge : ¬ (k : Int) < (k : Int) := by omega
      have hok : okO h out i = fr := by rw [HOKO.out, HHB.out, HFR.out, HN.out]; rfl
      have hxn := HXN.out
      clear hc
      cases fr
      ·have HNO2 : Hid (FirstO h out (i + 1) 0) := hid (.inl ⟨rfl, fun j hj => by
        by_cases hji : j < i
        ·exact HNO.out j hji
        ·obtain rfl : j = i := by omega
         exact hok⟩)
       clear hok hxn
       go_wp2_with fail
       go_roundw
       case rel => exact ⟨i + 1, 0, by go_num, rfl, by omega, HNO2, hbk⟩
       case measure => simp [intOf]; omega
      ·have HNO2 : Hid (FirstO h out (i + 1) x.num) := hid (.inr ⟨i, rfl, hxn, hok, HNO.out⟩)
       clear hok hxn
       go_wp2_with fail
       go_roundw
       case rel => exact ⟨i + 1, x.num, by go_num, rfl, by omega, HNO2, hbk⟩
       case measure => simp [intOf]; omega
end Go.Proofs.YtekmadgacepdfaaGreat.T
