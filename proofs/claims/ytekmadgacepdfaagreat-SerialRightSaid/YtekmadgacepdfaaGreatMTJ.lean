/- Several texts as one: TI LayDe TJ TK TL. -/
import Derived.Test.YtekmadgacepdfaaGreatMTD
import Derived.Test.YtekmadgacepdfaaGreatChecked
import Derived.Shelf.SlLaysE
import Derived.Test.YtekmadgacepdfaaGreatMTA
import Derived.Shelf.SlicesE.Delete
import Derived.Lib.OwnBridge
import Derived.Test.YtekmadgacepdfaaGreatMR
import Derived.Test.YtekmadgacepdfaaGreatMNC
namespace Go.Proofs.YtekmadgacepdfaaGreat.T
set_option linter.unusedVariables false
open Go.RowKit Fl
set_option linter.unusedSimpArgs false

def keyT (h : List DoneV) (i : Nat) : List Nat := (h.take i).flatMap fun d => d.s.ws
theorem keyT_snoc {h : List DoneV} {i : Nat} {x : DoneV} (hx : h[i]? = some x) : keyT h (i + 1) = keyT h i ++ x.s.ws := by
 unfold keyT
 rw [List.take_add_one, hx, List.flatMap_append]
 simp
theorem keyT_all (h : List DoneV) : keyT h h.length = keysV h := by unfold keyT keysV; rw [List.take_length]
theorem keyT_le (h : List DoneV) (i : Nat) : (keyT h i).length ≤ (keysV h).length := by
 have : keysV h = keyT h i ++ (h.drop i).flatMap fun d => d.s.ws := by
  unfold keysV keyT
  rw [← List.flatMap_append, List.take_append_drop]
 rw [this, List.length_append]; omega
theorem keys_le : ∀ {h : List DoneV}, (∀ d ∈ h, d.s.ws.length ≤ 16) → (keysV h).length ≤ h.length * 16
 | [], _ => Nat.zero_le _
 | d :: h, H => by
  have := keys_le (h := h) fun x hx => H x (List.mem_cons_of_mem _ hx)
  have := H d (List.mem_cons_self ..)
  unfold keysV at *
  rw [List.flatMap_cons, List.length_append, List.length_cons, Nat.add_mul]
  omega
theorem HAt.keys_lt {w : World} {a : Option Addr} {h : List DoneV} (hh : HAt w a h) : ∀ k ∈ keysV h, k < 2 ^ 64 := by
 intro k hk
 obtain ⟨d, hd, hkd⟩ := List.mem_flatMap.1 hk
 obtain ⟨i, hi, rfl⟩ := List.mem_iff_getElem.1 hd
 have := (hh.sub i hi).w
 rw [List.getElem?_eq_getElem hi] at this
 obtain ⟨j, hj, rfl⟩ := List.mem_iff_getElem.1 hkd
 have := this.lt j hj
 simp only [Option.getD_some] at this
 rw [List.getElem?_eq_getElem hj] at this
 exact this
def KeysRet (h : List DoneV) (w : World) (e : Ending) (w' : World) : Prop := ∃ a c, e = .returned (.slice a (keysV h).length c) ∧ FAt w' a (keysV h) ∧ Below w.heap.size w w'
set_option maxHeartbeats 1000000 in
set_option maxRecDepth 100000 in
theorem refKeys_any (a : Option Addr) (c n : Nat) (h : List DoneV) (w : World) (hn : h.length = n) (hh : HAt w a h) (hm : n ≤ 64) (hk : (keysV h).length ≤ 1024) :
  Calls Tryz.prog 52 #[.slice a n c] w (KeysRet h w) := by
 have HX := hid hh
 have HN := hid hn
 have hkk := fun i => Nat.le_trans (keyT_le h i) hk
 have HKK := hid hkk
 have HLT := hid hh.keys_lt
 clear hh hn hkk hk
 go_enter Tryz.func52, Tryz.ntmps52
 go_upto_region 3 with fail
 have hO0 : (w.alloc (.cells #[] 64)).ownsRow w.heap.size 64 1 (.slice (some ⟨w.heap.size, 0, none⟩) 0 0) 0 (K.fCells (keyT h 0)) := World.ownsRow_made w #[] 0 (Nat.le_refl _) (by unfold maxLen; omega) rfl
 have HO0 := hid hO0
 clear hO0
 go_loopw [3, 4] (fun t3 t4 wr => ∃ (i : Nat) (ao : Option Addr) (co L : Nat), t4 = .int .i64 (i : Nat) ∧ t3 = .slice ao L co ∧ i ≤ n ∧ Hid (L = (keyT h i).length) ∧ Hid (wr.ownsRow w.heap.size 64 1 (.slice ao L co) L (K.fCells (keyT h i))) ∧ Below w.heap.size w wr) (fun _ t4 _ => n - (intOf t4).toNat)
 case atStart => exact ⟨0, _, _, _, rfl, rfl, Nat.zero_le _, hid rfl, HO0, by (repeat (first | with_reducible exact Below.refl _ _ | ((with_reducible refine Below.alloc1 ?_ ?_ _); (· first | omega | (simp; done) | (simp; omega))) | (with_reducible refine Below.drew ?_) | (with_reducible refine below_drewN' ?_ _) | ((with_reducible refine Below.setCell1 ?_ ?_ _); (· first | omega | (simp; done) | (simp; omega))) | ((with_reducible refine Below.after (by assumption) ?_ ?_); (· first | omega | (simp; done) | (simp; omega)))))⟩
 case round =>
  obtain ⟨i, ao, co, L, rfl, rfl, hi, HL, HOW, hbw⟩ := hrel
  by_cases hlt : i < n
  ·have hkl : i < h.length := by rw [HN.out]; exact hlt
   have hlt' : (i : Int) < (n : Int) := by omega
   have hkx : Hid (h[i]? = some (h[i]?.getD default)) := hid (by rw [List.getElem?_eq_getElem hkl]; rfl)
   have HS := hid (HX.out.sub i hkl)
   have HC := hid fun W (hb : Below w.heap.size w W) => (HX.out.below hb).row
   have HI := hid hkl
   clear hkl
   generalize hxe : h[i]?.getD default = x at *
   have HXE := hid hxe
   clear hxe
   obtain ⟨m, hm2⟩ : ∃ m, m = x.s.ws.length := ⟨_, rfl⟩
   have HMW := hid hm2
   have hml := HS.out.w.len
   unfold maxLen at hml
   rw [← hm2] at hml
   have hbnd : ∀ j, j ≤ m → (keyT h i ++ x.s.ws.take j).length ≤ 1024 := fun j hj => by
    have h1 := HKK.out (i + 1)
    rw [keyT_snoc hkx.out, List.length_append] at h1
    rw [List.length_append, List.length_take]; omega
   have HBD := hid hbnd
   clear hm2 hbnd
   go_upto_region 6 with fail
   go_loopw [3, 5] (fun t3 t5 wx => ∃ (j : Nat) (ai : Option Addr) (ci M : Nat), t5 = .int .i64 (j : Nat) ∧ t3 = .slice ai M ci ∧ j ≤ m ∧ Hid (M = (keyT h i ++ x.s.ws.take j).length) ∧ Hid (wx.ownsRow w.heap.size 64 1 (.slice ai M ci) M (K.fCells (keyT h i ++ x.s.ws.take j))) ∧ Below w.heap.size w wx) (fun _ t5 _ => m - (intOf t5).toNat)
   case atStart => exact ⟨0, ao, co, L, rfl, rfl, Nat.zero_le _, hid (by rw [HL.out]; simp), hid (by have := HOW.out; simpa using this), hbw⟩
   case round =>
    obtain ⟨j, ai, ci, M, rfl, rfl, hj, HM, HOI, hbx⟩ := hrel
    have hil : i < h.length := HI.out
    rcases HC.out wr hbx with h0 | ⟨b, o, ha, hbl, hc⟩
    ·rw [h0] at hil; simp at hil
    subst ha
    have c6 := hc i hil 6 _ rfl
    rw [HXE.out, ← HMW.out] at c6
    clear hc hil
    have hsz := hbx.size
    by_cases hjl : j < m
    ·have hjl' : (j : Int) < (m : Int) := by omega
     have hjw : j < x.s.ws.length := by rw [← HMW.out]; exact hjl
     have hky : Hid (x.s.ws[j]? = some (x.s.ws[j]?.getD 0)) := hid (fl_some hjw)
     rcases (HS.out.w.below hbx).row with h0 | ⟨g, q, hag, hgl, hgc⟩
     ·rw [h0] at hjw; simp at hjw
     have hgc := hgc j hjw
     rw [hag] at c6
     clear hag hjw
     generalize x.s.ws[j]?.getD 0 = y at *
     have hMb := HBD.out j hj
     rw [← HM.out] at hMb
     obtain ⟨a2, c2, w2, hr2, hO2, hb2⟩ := K.appF y HM.out.symm HOI.out hsz (by omega)
     have htk : (keyT h i ++ x.s.ws.take j) ++ [y] = keyT h i ++ x.s.ws.take (j + 1) := by rw [List.take_add_one, hky.out, List.append_assoc]; rfl
     rw [htk] at hO2
     have HO2 := hid hO2
     have HM2 : Hid (M + 1 = (keyT h i ++ x.s.ws.take (j + 1)).length) := hid (by rw [← htk, List.length_append, ← HM.out]; rfl)
     have HB2 := hid (hbx.trans hb2)
     clear hO2 htk hb2 hMb
     go_wp2_with (at_builtin; refine Lib.wpList_append_run _ rfl _ _ _ _ rfl _ _ rfl rfl _ _ (hr2 _) ?_)
     go_roundw
     case rel => exact ⟨j + 1, a2, c2, M + 1, by go_num, rfl, by omega, HM2, HO2, HB2.out⟩
     case measure => simp [intOf]; omega
    ·obtain rfl : j = m := by omega
     have hge : ¬ (j : Int) < (j : Int) := by omega
     have hsn : keyT h i ++ x.s.ws.take j = keyT h (i + 1) := by rw [keyT_snoc hkx.out, HMW.out, List.take_length]
     have HO3 := HOI.out
     have HM3 := HM.out
     rw [hsn] at HO3 HM3
     have HO4 := hid HO3; have HM4 := hid HM3
     clear HO3 HM3 hsn
     go_wp2_with fail
     go_roundw
     case rel => exact ⟨i + 1, ai, ci, M, by go_num, rfl, by omega, HM4, HO4, hbx⟩
     case measure => simp [intOf]; omega
  ·obtain rfl : i = n := by omega
   have hge : ¬ (i : Int) < (i : Int) := by omega
   have hall : keyT h i = keysV h := by rw [← HN.out]; exact keyT_all h
   have hO := HOW.out
   have hL := HL.out
   have hb1 := HKK.out i
   rw [hall] at hO hL hb1
   have HFO : Hid (KeysRet h w (.returned (.slice ao L co)) wr) := hid ⟨ao, co, by rw [hL], K.own_fat hL.symm hO (by omega) HLT.out, hbw⟩
   clear hO hL hb1 hall
   go_wp2_with fail
   go_ret
   exact HFO.out
theorem check_ws {x : SubV} (h : K.SubV.check x = 0) : x.ws.length ≤ 16 := by
 unfold K.SubV.check at h
 cases hm : K.SubV.mb x
 ·exact (K.mb_false hm).2.2
 ·exfalso
  rw [hm] at h
  revert h
  generalize K.SubV.nb x = p
  generalize x.rs.any isNaN = a
  generalize x.ws.any isNaN = b
  generalize K.hasE x.ss = c
  generalize K.ordF x.rs = d
  generalize K.ordF x.ws = e
  generalize K.ordS x.ss = f
  cases p <;> cases a <;> cases b <;> cases c <;> cases d <;> cases e <;> cases f <;> decide
def bothV (h : List DoneV) (a b : DoneV) : Bool := (keysV h).any fun k => a.s.writes k && b.s.writes k
theorem pairOk_eq (h : List DoneV) (a b : DoneV) : pairOk h a b = (decide (b.num ≤ a.s.s2) || (decide (a.num ≤ b.s.s2) || !bothV h a b)) := rfl
end Go.Proofs.YtekmadgacepdfaaGreat.T
namespace Go.Proofs.YtekmadgacepdfaaGreat
set_option linter.unusedVariables false
open Go.Shelf

def delI_ren : Go.Shelf.Ren := ⟨fun | 0 => 0 | 1 => 1 | 2 => 2 | 45 => 107 | 53 => 85 | 59 => 162 | 63 => 130 | 64 => 131 | 68 => 194 | 70 => 156 | 71 => 157 | 72 => 158 | 73 => 159 | 74 => 160 | 75 => 161 | 76 => 163 | 77 => 164 | 78 => 165 | 79 => 166 | 88 => 189 | 89 => 190 | 90 => 191 | 91 => 192 | 92 => 193 | 96 => 203 | 98 => 206 | 99 => 207 | 100 => 208 | 101 => 209 | 102 => 210 | 103 => 211 | 104 => 212 | 105 => 213 | 106 => 214 | 107 => 215 | 108 => 216 | 109 => 217 | 110 => 218 | 111 => 219 | 112 => 220 | 113 => 221 | n => n, fun | 0 => 0 | 1 => 1 | 2 => 2 | 3 => 3 | 4 => 4 | 5 => 5 | 6 => 6 | 7 => 7 | 8 => 8 | 9 => 9 | 10 => 10 | 11 => 11 | 12 => 12 | 13 => 13 | 14 => 14 | 15 => 15 | 16 => 16 | 17 => 17 | 18 => 18 | 19 => 19 | 20 => 20 | 21 => 21 | 22 => 50 | 23 => 2 | 28 => 113 | 30 => 80 | 32 => 137 | 38 => 155 | 44 => 199 | 51 => 177 | 52 => 180 | 53 => 138 | 56 => 175 | 57 => 176 | 59 => 193 | 60 => 194 | 61 => 195 | 62 => 196 | 63 => 197 | 64 => 198 | 65 => 200 | 66 => 201 | 67 => 202 | 68 => 203 | 69 => 141 | 75 => 218 | 76 => 219 | 77 => 220 | 78 => 221 | 79 => 222 | 80 => 223 | 83 => 228 | 84 => 229 | 85 => 230 | 87 => 233 | 88 => 234 | 89 => 235 | 90 => 236 | 91 => 237 | 92 => 238 | 93 => 52 | 94 => 239 | 95 => 240 | 96 => 241 | 97 => 242 | 98 => 243 | 99 => 244 | 100 => 245 | 101 => 246 | 102 => 247 | n => n, fun | n => n⟩
theorem delI : SlLaysE.n45 Tryz.prog delI_ren := {
 mixed := by kernel_rfl,
 f45 := ⟨Tryz.f107.name, by decide, Tryz.func107.trans (congrArg some (by kernel_rfl))⟩,
 t0 := Tryz.underlying0,
 a0 := Tryz.isAgg0,
 z0 := Tryz.sizeOf0,
 v0 := Tryz.zeroValue0,
 t3 := Tryz.underlying3,
 a3 := Tryz.isAgg3,
 z3 := Tryz.sizeOf3,
 v3 := Tryz.zeroValue3,
 t4 := Tryz.underlying4,
 a4 := Tryz.isAgg4,
 z4 := Tryz.sizeOf4,
 v4 := Tryz.zeroValue4,
 t22 := Tryz.underlying50,
 a22 := Tryz.isAgg50,
 z22 := Tryz.sizeOf50,
 v22 := Tryz.zeroValue50,
 a23 := Tryz.isAgg2,
 z23 := Tryz.sizeOf2 }
end Go.Proofs.YtekmadgacepdfaaGreat
namespace Go.Proofs.YtekmadgacepdfaaGreat.T
set_option linter.unusedVariables false
open Go.RowKit Fl Go.Shelf
set_option linter.unusedSimpArgs false

/-! Plain: the edges by numbers. -/
def fromN (h : List DoneV) (m : Int) : List Int := (upN h.length).filter fun k => lead h m k
theorem lead_num {h : List DoneV} (hr : rightV h = true) {a b : DoneV} (ha : a ∈ h) (hb : b ∈ h) : lead h a.num b.num = leadsV a b := by
 unfold lead
 rw [at_num hr ha, at_num hr hb]
theorem edges_nums {h : List DoneV} (hr : rightV h = true) : edgesV h = (upN h.length).flatMap fun m => (fromN h m).map fun k => (m, k) := by
 unfold edgesV fromN
 rw [if_pos hr, ← nums_right hr]
 unfold numsV
 have key : ∀ l : List DoneV, (∀ d ∈ l, d ∈ h) → (l.flatMap fun a => (h.filter fun b => leadsV a b).map fun b => (a.num, b.num)) = (l.map DoneV.num).flatMap fun m => (((h.map DoneV.num).filter fun k => lead h m k).map fun k => (m, k)) := by
  intro l
  induction l with
  | nil => intro _; rfl
  | cons a l ih =>
   intro hl
   rw [List.flatMap_cons, List.map_cons, List.flatMap_cons, ih fun d hd => hl d (List.mem_cons_of_mem _ hd)]
   congr 1
   rw [List.filter_map, List.map_map]
   have hf : h.filter (fun b => leadsV a b) = h.filter ((fun k => lead h a.num k) ∘ DoneV.num) := by
    refine List.filter_congr fun b hb => ?_
    exact (lead_num hr (hl a (List.mem_cons_self ..)) hb).symm
   rw [hf]; rfl
 exact key h fun _ hd => hd
theorem edges_mem {h : List DoneV} (hr : rightV h = true) {e : Int × Int} (he : e ∈ edgesV h) : (1 ≤ e.1 ∧ e.1 ≤ (h.length : Nat)) ∧ 1 ≤ e.2 ∧ e.2 ≤ (h.length : Nat) := by
 rw [edges_nums hr] at he
 obtain ⟨m, hm, hx⟩ := List.mem_flatMap.1 he
 obtain ⟨k, hk, rfl⟩ := List.mem_map.1 hx
 unfold fromN at hk
 exact ⟨upN_mem.1 hm, upN_mem.1 (List.mem_filter.1 hk).1⟩
theorem edges_from {h : List DoneV} (hr : rightV h = true) {m : Int} (hm : m ∈ upN h.length) : ((edgesV h).filter fun e => decide (e.1 = m)).map Prod.snd = fromN h m := by
 rw [edges_nums hr]
 have key : ∀ l : List Int, l.Nodup → (((l.flatMap fun m => (fromN h m).map fun k => (m, k)).filter fun e => decide (e.1 = m)).map Prod.snd) = if m ∈ l then fromN h m else [] := by
  intro l
  induction l with
  | nil => intro _; rfl
  | cons a l ih =>
   intro hn
   obtain ⟨h1, h2⟩ := List.nodup_cons.1 hn
   rw [List.flatMap_cons, List.filter_append, List.map_append, ih h2]
   by_cases ha : a = m
   ·subst ha
    rw [if_neg h1, if_pos (List.mem_cons_self ..), List.append_nil, List.filter_eq_self.2 (by intro e he; obtain ⟨k, _, rfl⟩ := List.mem_map.1 he; simp), List.map_map]
    exact List.map_id'' (fun _ => rfl) _
   ·have : ((fromN h a).map fun k => (a, k)).filter (fun e => decide (e.1 = m)) = [] := by
     rw [List.filter_eq_nil_iff]
     intro e he
     obtain ⟨k, _, rfl⟩ := List.mem_map.1 he
     simpa using ha
    rw [this]
    by_cases hm : m ∈ l
    ·rw [if_pos hm, if_pos (List.mem_cons_of_mem _ hm)]; rfl
    ·rw [if_neg hm, if_neg (fun h => by rcases List.mem_cons.1 h with h | h; exact ha h.symm; exact hm h)]; rfl
 rw [key _ (rise_nodup (upN_rise _)), if_pos hm]
theorem edges_to {h : List DoneV} (hr : rightV h = true) (k : Int) (hk : k ∈ upN h.length) : ((edgesV h).filter fun e => decide (e.2 = k)).length = ((upN h.length).filter fun m => lead h m k).length := by
 rw [edges_nums hr]
 have key : ∀ l : List Int, ((l.flatMap fun m => (fromN h m).map fun k => (m, k)).filter fun e => decide (e.2 = k)).length = (l.filter fun m => lead h m k).length := by
  intro l
  induction l with
  | nil => rfl
  | cons a l ih =>
   rw [List.flatMap_cons, List.filter_append, List.length_append, ih, List.filter_cons]
   have h1 : (((fromN h a).map fun k => (a, k)).filter fun e => decide (e.2 = k)).length = if lead h a k = true then 1 else 0 := by
    rw [List.filter_map, List.length_map]
    have h2 : (fromN h a).filter ((fun e : Int × Int => decide (e.2 = k)) ∘ fun k => (a, k)) = (fromN h a).filter fun x => decide (x = k) := rfl
    rw [h2]
    have hnd : (fromN h a).Nodup := by unfold fromN; exact (rise_nodup (upN_rise _)).sublist List.filter_sublist
    have hcn : ((fromN h a).filter fun x => decide (x = k)).length = (fromN h a).count k := by
     rw [List.count_eq_length_filter]
     congr 1
    rw [hcn]
    by_cases hl : lead h a k = true
    ·rw [if_pos hl]
     have hm : k ∈ fromN h a := List.mem_filter.2 ⟨hk, hl⟩
     have h3 := List.count_pos_iff.2 hm
     have h4 := List.nodup_iff_count.1 hnd k
     omega
    ·rw [if_neg hl, List.count_eq_zero]
     exact fun hm => hl (List.mem_filter.1 hm).2
   rw [h1]
   by_cases hl : lead h a k = true
   ·rw [if_pos hl, if_pos hl, List.length_cons]; omega
   ·rw [if_neg hl, if_neg hl]; omega
 exact key _
theorem filter_erase {p : Int → Bool} {n : Int} : ∀ {l : List Int}, l.Nodup → n ∈ l → ((l.erase n).filter p).length + (if p n = true then 1 else 0) = (l.filter p).length := by
 intro l hn hm
 have hp := List.perm_cons_erase hm
 have h1 := (hp.filter p).length_eq
 rw [h1, List.filter_cons]
 by_cases hpn : p n = true
 ·rw [if_pos hpn, if_pos hpn, List.length_cons]
 ·rw [if_neg hpn, if_neg hpn]; omega
theorem find_idx {p : Int → Bool} {l : List Int} {i : Nat} (hi : idxB p l = (i : Nat)) : ∃ hl : i < l.length, l.find? p = some l[i] := by
 unfold idxB at hi
 cases hf : l.findIdx? p with
 | none => exfalso; rw [hf] at hi; change (-1 : Int) = _ at hi; omega
 | some j =>
  rw [hf] at hi
  have : j = i := by
   have h0 : (j : Int) = (i : Int) := by simpa using hi
   omega
  subst this
  obtain ⟨hl, hp, hb⟩ := List.findIdx?_eq_some_iff_getElem.1 hf
  refine ⟨hl, ?_⟩
  rw [List.find?_eq_some_iff_getElem]
  exact ⟨hp, j, hl, rfl, fun k hk => by simpa using hb k hk⟩
theorem find_none {p : Int → Bool} {l : List Int} (hi : idxB p l < 0) : l.find? p = none := by
 unfold idxB at hi
 cases hf : l.findIdx? p with
 | none =>
  rw [List.findIdx?_eq_none_iff] at hf
  rw [List.find?_eq_none]
  intro x hx
  rw [hf x hx]; simp
 | some j => rw [hf] at hi; simp at hi; omega
theorem erase_idx : ∀ {l : List Int} {i : Nat}, l.Nodup → ∀ hi : i < l.length, l.eraseIdx i = l.erase l[i]
 | [], i, _, hi => absurd hi (Nat.not_lt_zero _)
 | x :: l, 0, _, _ => by simp
 | x :: l, i + 1, hn, hi => by
  obtain ⟨h1, h2⟩ := List.nodup_cons.1 hn
  have hil : i < l.length := by simpa using hi
  have hne : x ≠ l[i] := fun e => h1 (e ▸ List.getElem_mem hil)
  rw [List.eraseIdx_cons_succ, List.getElem_cons_succ, List.erase_cons_tail (by simpa using hne), erase_idx h2 hil]

/-! Rows of numbers. -/
def nCells (l : List Int) : List Value := l.map (Value.int .i64)
theorem i64Info : (Tryz.prog.info? 2).map (fun i => (i.zero, i.size, i.bytes)) = some (some (.int .i64 0), 1, 8) := by kernel_rfl
/-- A number is added. -/
theorem appN {w : World} {base n : Nat} {a : Option Addr} {c : Nat} {xs : List Int} (y : Int) (hn : xs.length = n) (hown : w.ownsRow base 2 1 (.slice a n c) n (nCells xs)) (hbase : base ≤ w.heap.size) (hl : n ≤ 100000) :
  ∃ a' c' w', (∀ ty, (Builtin.append_ #[50, 50] ty #[.slice a n c, .slice (some ⟨w.heap.size, 0, none⟩) 1 1]).run Tryz.prog (w.alloc (.cells #[.int .i64 y] 2)) = .ok (.slice a' (n + 1) c') w') ∧
   w'.ownsRow base 2 1 (.slice a' (n + 1) c') (n + 1) (nCells (xs ++ [y])) ∧ Below base w w' ∧ w.grownBy w' (Value.slice a n c).ownBlock ∧ ((Value.slice a' (n + 1) c').ownBlock = (Value.slice a n c).ownBlock ∨ (Value.slice a' (n + 1) c').ownBlock = none ∨ ∃ g, (Value.slice a' (n + 1) c').ownBlock = some g ∧ w.heap.size ≤ g) := by
 obtain ⟨i0, hi0, hz0, hzs, hzb⟩ := info_parts i64Info
 have hb1 : Below w.heap.size w (w.alloc (.cells #[.int .i64 y] 2)) := by (repeat (first | with_reducible exact Below.refl _ _ | ((with_reducible refine Below.alloc1 ?_ ?_ _); (· first | omega | (simp; done) | (simp; omega))) | (with_reducible refine Below.drew ?_) | (with_reducible refine below_drewN' ?_ _) | ((with_reducible refine Below.setCell1 ?_ ?_ _); (· first | omega | (simp; done) | (simp; omega))) | ((with_reducible refine Below.after (by assumption) ?_ ?_); (· first | omega | (simp; done) | (simp; omega)))))
 have hown1 := hown.kept (K.grown_of_below hb1) (by cases (Value.slice a n c).ownBlock <;> simp)
 obtain ⟨v', w', hr, h2, h3⟩ := run_append_own2 (P := Tryz.prog) (w.alloc (.cells #[.int .i64 y] 2)) base 50 2 i0 _ 1 8 Tryz.underlying50 hi0 hz0 hzs hzb rfl (by omega) _ _ _ hown1 ⟨w.heap.size, 0, none⟩ 1 1 [.int .i64 y] rfl
  (fun j u hj => by
   have hrow : (w.alloc (.cells #[.int .i64 y] 2)).heap[w.heap.size]? = some (.cells #[.int .i64 y] 2 (0, 0)) := heap_alloc_new w _
   rw [K.addr0, cell_of_row _ _ j _ _ (0, 0) hrow]
   rw [← hj]; simp) (by intro u hu; rw [List.mem_singleton.1 hu]; rfl) (by omega) (by unfold maxLen; omega) (by omega) (by simp; omega)
 have hc : nCells xs ++ [.int .i64 y] = nCells (xs ++ [y]) := by simp [nCells]
 rw [hc] at h2
 have hv : ∃ va vc, v' = .slice va (n + 1) vc := by
  rcases h2.2 with ⟨rfl, h4⟩ | ⟨g, cap, cur, rfl, _⟩
  ·omega
  ·exact ⟨_, _, rfl⟩
 obtain ⟨a', c', rfl⟩ := hv
 refine ⟨a', c', w', hr, h2, (hb1.mono hbase).grown h3.1 (by simp; omega) (fun k hk => (hown.lt k hk).1), (World.grownBy_alloc w _ _).trans h3.1, ?_⟩
 rcases h3.2 with h | h | ⟨g, h, hg⟩
 ·exact .inl h
 ·exact .inr (.inl h)
 ·exact .inr (.inr ⟨g, h, by simp at hg; omega⟩)
set_option maxRecDepth 100000 in
/-- A number is taken out. -/
theorem del_any {w : World} {B c n : Nat} {a : Option Addr} {l : List Int} (i : Nat) (hn : l.length = n) (h : w.ownsRow B 2 1 (.slice a n c) n (nCells l)) (hi : i < n) :
  Calls Tryz.prog 107 #[.slice a n c, .int .i64 (i : Nat), .int .i64 ((i + 1 : Nat) : Int)] w fun e w' => e = .returned (.slice a (n - 1) c) ∧ w'.ownsRow B 2 1 (.slice a (n - 1) c) (n - 1) (nCells (l.eraseIdx i)) ∧ w.grownBy w' (Value.slice a n c).ownBlock := by
 obtain ⟨g, cap, hv, hb, hg, hnc, hcm, hl, hH⟩ := Go.Lib.holds_of_ownsRow (enc := Value.int .i64) (zs := l) h (fun e => by injection e with _ e1 _; omega)
 injection hv with h1 _ h2
 subst h1; subst h2
 obtain ⟨i0, hi0, hz0, hzs, hzb⟩ := info_parts i64Info
 have hsz : l.toArray.size = n := by simpa using hn
 have hC := AnyE.slices_Delete delI (Value.int .i64) (fun _ => rfl) 0 Tryz.zeroValue2 i0 hi0 hzs g 0 c i (i + 1) l.toArray w hH (by rw [hsz]; exact hnc) (by unfold maxLen at hcm; omega) (by omega) (by rw [hsz]; omega)
 rw [hsz] at hC
 refine hC.mono ?_
 rintro e w' ⟨rfl, q, rfl⟩
 have e1 : n - (i + 1 - i) = n - 1 := by omega
 rw [e1]
 have e2 : ∀ zs : List Int, (zs.take i ++ zs.drop (i + 1)) = zs.eraseIdx i := fun zs => (List.eraseIdx_eq_take_drop_succ zs i).symm
 have hys : (l.toArray.toList.take i ++ l.toArray.toList.drop (i + 1) ++ List.replicate (i + 1 - i) 0).length = n := by simp; omega
 have hw := Go.Lib.ownsRow_putRow (q := q) (k := n - 1) (enc := Value.int .i64) (zs := l) h hys (by omega)
 have e3 : (l.toArray.toList.take i ++ l.toArray.toList.drop (i + 1) ++ List.replicate (i + 1 - i) 0).take (n - 1) = l.eraseIdx i := by
  rw [List.take_append_of_le_length (by simp; omega), List.take_of_length_le (by simp; omega)]
  exact e2 l
 rw [e3] at hw
 exact ⟨rfl, hw, rfl, rfl, rfl, by simp, fun k _ hk => by
  simp [Go.Sort.putRow, Go.Sort.mapBlock, Go.Sort.ahead, Array.getElem?_modify, show g ≠ k from fun e => hk (by rw [e]; rfl)]⟩
end Go.Proofs.YtekmadgacepdfaaGreat.T
namespace Go.Proofs.YtekmadgacepdfaaGreat.T
set_option linter.unusedVariables false
open Go.RowKit Fl Go.Shelf
set_option linter.unusedSimpArgs false

theorem range_at {α : Type} (N : Nat) (f : Nat → α) {k : Nat} (hk : k ≤ N) : ((List.range (N + 1)).map f)[k]? = some (f k) := by
 rw [List.getElem?_map, List.getElem?_range (by omega)]; rfl
theorem range_set {α : Type} (N : Nat) (f : Nat → α) (k : Nat) (v : α) (hk : k ≤ N) : ((List.range (N + 1)).map f).set k v = (List.range (N + 1)).map fun j => if j = k then v else f j := by
 refine List.ext_getElem? fun i => ?_
 rw [List.getElem?_set, List.getElem?_map, List.getElem?_map, List.length_map, List.length_range]
 by_cases hi : i < N + 1
 ·rw [List.getElem?_range hi]
  by_cases he : k = i
  ·subst he
   rw [if_pos rfl, if_pos hi]
   simp
  ·rw [if_neg he]
   simp [show i ≠ k from fun e => he e.symm]
 ·rw [List.getElem?_eq_none_iff.2 (by simp; omega)]
  rw [if_neg (by omega)]
  rfl
/-- A row that is full. -/
theorem row_full {w : World} {B K g n : Nat} {e : TypeId} {cs : List Value} (h : w.ownsRow B e K (.slice (some ⟨g, 0, none⟩) n n) n cs) : w.heap[g]? = some (.cells cs.toArray e (0, 0)) := by
 rcases h.2 with ⟨h1, _⟩ | ⟨g', cap, cur, h1, _, hb, _, _, hs, ht⟩
 ·cases h1
 ·injection h1 with h2 _ h3
  injection h2 with h2
  injection h2 with h2
  subst h2; subst h3
  rw [List.take_of_length_le (by simp [hs])] at ht
  rw [hb, ← ht]
/-- How many edges lead to each: the box X holds the row at block A. -/
structure AheadAt (w : World) (X A N : Nat) (av : Nat → Int) : Prop where
 box : w.heap[X]? = some (.cells #[.slice (some ⟨A, 0, none⟩) (N + 1) (N + 1)] 22 (0, 0))
 row : w.heap[A]? = some (.cells ((List.range (N + 1)).map fun k => Value.int .i64 (av k)).toArray 3 (0, 0))
section
variable {w w' : World} {X A N : Nat} {av : Nat → Int}
theorem AheadAt.lt (h : AheadAt w X A N av) : X < w.heap.size ∧ A < w.heap.size := ⟨(Array.getElem?_eq_some_iff.1 h.box).1, (Array.getElem?_eq_some_iff.1 h.row).1⟩
theorem AheadAt.ne (h : AheadAt w X A N av) : X ≠ A := fun e => by
 have h1 := h.box
 rw [e, h.row] at h1
 simp only [Option.some.injEq, Obj.cells.injEq] at h1
 exact absurd h1.2.1 (by decide)
theorem AheadAt.below (h : AheadAt w X A N av) (hb : Below w.heap.size w w') : AheadAt w' X A N av := ⟨(hb.block X h.lt.1).trans h.box, (hb.block A h.lt.2).trans h.row⟩
theorem AheadAt.c0 (h : AheadAt w X A N av) : w.cell? ⟨X, 0, none⟩ = some (.slice (some ⟨A, 0, none⟩) (N + 1) (N + 1)) := by rw [cell_of_row w X 0 _ _ (0, 0) h.box]; rfl
theorem AheadAt.cell (h : AheadAt w X A N av) {k : Nat} (hk : k ≤ N) : w.cell? ⟨A, k, none⟩ = some (.int .i64 (av k)) ∧ w.frozen? ⟨A, k, none⟩ = false := by
 refine ⟨?_, by simp [World.frozen?, h.row]⟩
 rw [cell_of_row w A k _ _ (0, 0) h.row]
 rw [List.getElem?_toArray, range_at N _ hk]
theorem AheadAt.set (h : AheadAt w X A N av) {k : Nat} (hk : k ≤ N) (v : Int) : AheadAt (w.setCell ⟨A, k, none⟩ (.int .i64 v)) X A N (fun j => if j = k then v else av j) ∧ w.grownBy (w.setCell ⟨A, k, none⟩ (.int .i64 v)) (some A) := by
 obtain ⟨h1, h2⟩ := K.set1 (i := k) h.row (.int .i64 v)
 refine ⟨⟨(h2.block X h.lt.1 (fun e => h.ne (Option.some.inj e))).trans h.box, ?_⟩, h2⟩
 rw [h1]
 congr 2
 rw [List.setIfInBounds_toArray, range_set N _ k _ hk]
 congr 1
 refine List.map_congr_left fun j _ => ?_
 by_cases hj : j = k
 ·rw [if_pos hj, if_pos hj]
 ·rw [if_neg hj, if_neg hj]
/-- What has type T's blocks alone turned keeps it. -/
theorem AheadAt.stay (h : AheadAt w X A N av) (hk : ∀ (q : Nat) (o : Obj), w.heap[q]? = some o → (∀ cur, o ≠ Obj.cells cur 2 (0, 0)) → (∀ cur, o ≠ Obj.cells cur 50 (0, 0)) → w'.heap[q]? = some o) : AheadAt w' X A N av :=
 ⟨hk _ _ h.box (fun cur e => by simp only [Obj.cells.injEq] at e; exact absurd e.2.1 (by decide)) (fun cur e => by simp only [Obj.cells.injEq] at e; exact absurd e.2.1 (by decide)),
  hk _ _ h.row (fun cur e => by simp only [Obj.cells.injEq] at e; exact absurd e.2.1 (by decide)) (fun cur e => by simp only [Obj.cells.injEq] at e; exact absurd e.2.1 (by decide))⟩
end
/-- A row of numbers turns. -/
theorem AheadAt.own {w w' : World} {X A N B n : Nat} {av : Nat → Int} {v : Value} {cs : List Value} (h : AheadAt w X A N av) (hr : w.ownsRow B 2 1 v n cs) (hg : w.grownBy w' v.ownBlock) : AheadAt w' X A N av :=
 h.stay fun q o hq h1 _ => (hg.block q (Array.getElem?_eq_some_iff.1 hq).1 fun e => by
  obtain ⟨cur, hb⟩ := own_blkT hr e.symm
  rw [hq] at hb
  exact h1 cur (Option.some.inj hb)).trans hq
def upd {α : Type} (f : Nat → α) (k : Nat) (v : α) : Nat → α := fun j => if j = k then v else f j
/-- Where edges lead: a row of rows. -/
structure BehAt (w : World) (C H N : Nat) (f : Nat → Option Addr × Nat) (bs : Nat → List Int) : Prop where
 row : w.heap[H]? = some (.cells ((List.range (N + 1)).map fun k => Value.slice (f k).1 (bs k).length (f k).2).toArray 50 (0, 0))
 own : ∀ k, k ≤ N → w.ownsRow C 2 1 (.slice (f k).1 (bs k).length (f k).2) (bs k).length (nCells (bs k))
 apart : ∀ j k, j ≤ N → k ≤ N → j ≠ k → ∀ g, (Value.slice (f j).1 (bs j).length (f j).2).ownBlock = some g → (Value.slice (f k).1 (bs k).length (f k).2).ownBlock ≠ some g
section
variable {w w' : World} {C H N : Nat} {f : Nat → Option Addr × Nat} {bs : Nat → List Int}
theorem BehAt.lt (h : BehAt w C H N f bs) : H < w.heap.size := (Array.getElem?_eq_some_iff.1 h.row).1
theorem BehAt.cell (h : BehAt w C H N f bs) {k : Nat} (hk : k ≤ N) : w.cell? ⟨H, k, none⟩ = some (.slice (f k).1 (bs k).length (f k).2) ∧ w.frozen? ⟨H, k, none⟩ = false := by
 refine ⟨?_, by simp [World.frozen?, h.row]⟩
 rw [cell_of_row w H k _ _ (0, 0) h.row]
 rw [List.getElem?_toArray, range_at N _ hk]
theorem own_keep {w w' : World} {B K n : Nat} {e : TypeId} {v : Value} {cs : List Value} (h : w.ownsRow B e K v n cs) (hk : ∀ g cur, v.ownBlock = some g → w.heap[g]? = some (.cells cur e (0, 0)) → w'.heap[g]? = w.heap[g]?) : w'.ownsRow B e K v n cs := by
 refine ⟨h.1, ?_⟩
 rcases h.2 with h1 | ⟨g, cap, cur, h1, h2, hb, h3⟩
 ·exact .inl h1
 ·exact .inr ⟨g, cap, cur, h1, h2, (hk g cur (by rw [h1]; rfl) hb).trans hb, h3⟩
theorem BehAt.below (h : BehAt w C H N f bs) (hb : Below w.heap.size w w') : BehAt w' C H N f bs :=
 ⟨(hb.block H h.lt).trans h.row, fun k hk => own_keep (h.own k hk) fun g _ _ hg => hb.block g (Array.getElem?_eq_some_iff.1 hg).1, h.apart⟩
/-- A row of another type turns. -/
theorem BehAt.other (h : BehAt w C H N f bs) {g : Nat} {cur : Array Value} {T : TypeId} (hg : w.grownBy w' (some g)) (hT : w.heap[g]? = some (.cells cur T (0, 0))) (h1 : T ≠ 2) (h2 : T ≠ 50) : BehAt w' C H N f bs := by
 have ne : ∀ (q : Nat) (cur' : Array Value) (T' : TypeId), w.heap[q]? = some (Obj.cells cur' T' (0, 0)) → T ≠ T' → w'.heap[q]? = w.heap[q]? := fun q cur' T' hq hne => hg.block q (Array.getElem?_eq_some_iff.1 hq).1 fun e => by
  have e1 := Option.some.inj e
  subst e1
  rw [hT] at hq
  simp only [Option.some.injEq, Obj.cells.injEq] at hq
  exact hne hq.2.1
 exact ⟨(ne H _ _ h.row h2).trans h.row, fun k hk => own_keep (h.own k hk) fun q cur' _ hq => ne q _ _ hq h1, h.apart⟩
/-- A number is added to one of the rows. -/
theorem BehAt.add (h : BehAt w C H N f bs) {k : Nat} (hk : k ≤ N) (y : Int) (hC : C ≤ w.heap.size) (hl : (bs k).length ≤ 100000) (hH : C ≤ H) :
  ∃ a' c' w', (∀ ty, (Builtin.append_ #[50, 50] ty #[.slice (f k).1 (bs k).length (f k).2, .slice (some ⟨w.heap.size, 0, none⟩) 1 1]).run Tryz.prog (w.alloc (.cells #[.int .i64 y] 2)) = .ok (.slice a' ((bs k).length + 1) c') w') ∧
   (w'.cell? ⟨H, k, none⟩).isSome = true ∧ w'.frozen? ⟨H, k, none⟩ = false ∧
   BehAt (w'.setCell ⟨H, k, none⟩ (.slice a' ((bs k).length + 1) c')) C H N (upd f k (a', c')) (upd bs k (bs k ++ [y])) ∧ Below C w (w'.setCell ⟨H, k, none⟩ (.slice a' ((bs k).length + 1) c')) ∧
   (∀ (q : Nat) (o : Obj), w.heap[q]? = some o → (∀ cur, o ≠ Obj.cells cur 2 (0, 0)) → w'.heap[q]? = some o) ∧
   ∀ (q : Nat) (o : Obj), w.heap[q]? = some o → (∀ cur, o ≠ Obj.cells cur 2 (0, 0)) → (∀ cur, o ≠ Obj.cells cur 50 (0, 0)) → (w'.setCell ⟨H, k, none⟩ (.slice a' ((bs k).length + 1) c')).heap[q]? = some o := by
 obtain ⟨a', c', w', hr, hO, hb, hg, hfr⟩ := appN y rfl (h.own k hk) hC hl
 have hne : ∀ (q : Nat) (o : Obj), w.heap[q]? = some o → (∀ cur, o ≠ Obj.cells cur 2 (0, 0)) → w'.heap[q]? = w.heap[q]? := fun q o hq ho => hg.block q (Array.getElem?_eq_some_iff.1 hq).1 fun he => by
  obtain ⟨cur, hbk⟩ := own_blkT (h.own k hk) he.symm
  rw [hq] at hbk
  exact ho cur (Option.some.inj hbk)
 have hrow := (hne H _ h.row (fun cur e => by simp only [Obj.cells.injEq] at e; exact absurd e.2.1 (by decide))).trans h.row
 obtain ⟨hs1, hs2⟩ := K.set1 (i := k) hrow (.slice a' ((bs k).length + 1) c')
 have hap : ∀ j, j ≤ N → j ≠ k → ∀ g, (Value.slice (f j).1 (bs j).length (f j).2).ownBlock = some g → (Value.slice a' ((bs k).length + 1) c').ownBlock ≠ some g := fun j hj hjk g hjg e => by
  rcases hfr with h1 | h1 | ⟨g', h1, h2⟩
  ·rw [h1] at e
   exact h.apart j k hj hk hjk g hjg e
  ·rw [h1] at e; cases e
  ·rw [h1] at e
   cases e
   have := ((h.own j hj).lt _ hjg).2
   omega
 refine ⟨a', c', w', hr, by rw [cell_of_row w' H k _ _ (0, 0) hrow, List.getElem?_toArray, range_at N _ hk]; rfl, by simp [World.frozen?, hrow], ⟨?_, ?_, ?_⟩, hb.grown hs2 (Nat.le_trans hC hb.size) (fun q hq => by cases hq; exact hH), fun q o hq ho => (hne q o hq ho).trans hq, ?_⟩
 ·rw [hs1]
  congr 2
  rw [List.setIfInBounds_toArray, range_set N _ k _ hk]
  congr 1
  refine List.map_congr_left fun j _ => ?_
  unfold upd
  by_cases hj : j = k
  ·rw [if_pos hj, if_pos hj, if_pos hj]; simp
  ·rw [if_neg hj, if_neg hj, if_neg hj]
 ·intro j hj
  have hty : ∀ (g : Nat) (cur : Array Value), w'.heap[g]? = some (.cells cur 2 (0, 0)) → (w'.setCell ⟨H, k, none⟩ (.slice a' ((bs k).length + 1) c')).heap[g]? = w'.heap[g]? := fun g cur hgc => hs2.block g (Array.getElem?_eq_some_iff.1 hgc).1 fun e => by
   have e1 := Option.some.inj e
   subst e1
   rw [hrow] at hgc
   simp only [Option.some.injEq, Obj.cells.injEq] at hgc
   exact absurd hgc.2.1 (by decide)
  unfold upd
  by_cases hjk : j = k
  ·rw [if_pos hjk, if_pos hjk, List.length_append]
   exact own_keep hO fun g cur _ hgc => hty g cur hgc
  ·rw [if_neg hjk, if_neg hjk]
   have h1 := own_keep (w' := w') (h.own j hj) fun g cur hgo hgc => hg.block g (Array.getElem?_eq_some_iff.1 hgc).1 fun e => h.apart j k hj hk hjk g hgo e.symm
   exact own_keep h1 fun g cur _ hgc => hty g cur hgc
 ·intro i j hi hj hij g
  unfold upd
  by_cases h1 : i = k
  ·have h2 : j ≠ k := fun e => hij (h1.trans e.symm)
   rw [if_pos h1, if_pos h1, if_neg h2, if_neg h2, List.length_append]
   intro e1 e2
   exact hap j hj h2 g e2 e1
  ·rw [if_neg h1, if_neg h1]
   by_cases h2 : j = k
   ·rw [if_pos h2, if_pos h2, List.length_append]
    exact hap i hi h1 g
   ·rw [if_neg h2, if_neg h2]
    exact h.apart i j hi hj hij g
 ·intro q o hq ho1 ho2
  have h1 := (hne q o hq ho1).trans hq
  exact (hs2.block q (Array.getElem?_eq_some_iff.1 h1).1 fun e => by
   have e1 := Option.some.inj e
   subst e1
   rw [hrow] at h1
   exact ho2 _ (Option.some.inj h1).symm).trans h1
end
/-- A row of numbers that can be read. -/
structure NAt (w : World) (a : Option Addr) (l : List Int) : Prop where
 row : l = [] ∨ ∃ b o, a = some ⟨b, o, none⟩ ∧ b < w.heap.size ∧ ∀ i, i < l.length → w.cell? ⟨b, o + i, none⟩ = some (.int .i64 (l[i]?.getD 0))
 len : l.length ≤ maxLen
theorem NAt.below {w w' : World} {a : Option Addr} {l : List Int} (h : NAt w a l) (hb : Below w.heap.size w w') : NAt w' a l := by
 refine ⟨?_, h.len⟩
 rcases h.row with h0 | ⟨b, o, h1, h2, h3⟩
 ·exact .inl h0
 ·exact .inr ⟨b, o, h1, Nat.lt_of_lt_of_le h2 hb.size, fun i hi => (hb.cell (p := ⟨b, o + i, none⟩) h2).trans (h3 i hi)⟩
theorem own_nat {w : World} {B n c : Nat} {a : Option Addr} {l : List Int} (hn : l.length = n) (h : w.ownsRow B 2 1 (.slice a n c) n (nCells l)) (hm : n ≤ maxLen) : NAt w a l := by
 refine ⟨?_, by omega⟩
 rcases h.2 with ⟨_, h2⟩ | ⟨g, cap, cur, h1, _⟩
 ·exact .inl (List.eq_nil_of_length_eq_zero (by omega))
 ·injection h1 with h1 _ _
  subst h1
  refine .inr ⟨g, 0, rfl, (h.lt g rfl).2, fun i hi => ?_⟩
  have := h.cells (g := g) rfl i (.int .i64 (l[i]?.getD 0)) (by unfold nCells; rw [List.getElem?_map, List.getElem?_eq_getElem hi]; rfl)
  rw [K.addr0] at this
  rw [Nat.zero_add]; exact this
theorem sort1_any (n : Int) (X A N : Nat) (av : Nat → Int) (w : World) (h : AheadAt w X A N av) (hn : 0 ≤ n ∧ n ≤ N) (hN : N ≤ 64) :
  Calls Tryz.prog 106 #[.int .i64 n, .pointer (some ⟨X, 0, none⟩)] w (Ret (.bool (decide (av n.toNat = 0))) w) := by
 obtain ⟨k, rfl⟩ : ∃ k : Nat, n = (k : Int) := ⟨n.toNat, by omega⟩
 have hk : k ≤ N := by omega
 rw [Int.toNat_natCast]
 have c0 := h.c0
 have hl := h.lt
 obtain ⟨hx, ha⟩ := hl
 have ck := (h.cell hk).1
 have hkN : (k : Int) < (N : Int) + 1 := by omega
 clear h
 generalize av k = v at *
 by_cases hv : v = 0
 ·have hb : (v == 0) = true := by simpa using hv
  rw [decide_eq_true hv]
  clear hv
  go_enter Tryz.func106, Tryz.ntmps106
  go_wp2
  go_ret
  exact ⟨rfl, by exact below_auto⟩
 ·have hb : (v == 0) = false := by simpa using hv
  rw [decide_eq_false hv]
  clear hv
  go_enter Tryz.func106, Tryz.ntmps106
  go_wp2
  go_ret
  exact ⟨rfl, by exact below_auto⟩
theorem idxSort_any (P : Int → Bool) (a : Option Addr) (c X : Nat) (xs : List Int) (n : Nat) (w : World) (hn : xs.length = n) (h : NAt w a xs)
  (HM : ∀ (W : World) (x : Int), Below w.heap.size w W → x ∈ xs → Calls Tryz.prog 106 #[.int .i64 x, .pointer (some ⟨X, 0, none⟩)] W (Ret (.bool (P x)) W)) :
  Calls Tryz.prog 105 #[.slice a n c, .func (.func 106) #[] #[.pointer (some ⟨X, 0, none⟩)]] w (Ret (.int .i64 (idxB P xs)) w) := by
 obtain ⟨hr, hm⟩ := h
 unfold maxLen at hm
 rcases hr with rfl | ⟨b, o, rfl, hb, hc⟩
 ·simp only [List.length_nil] at hn
  subst hn
  have e : idxB P [] = -1 := rfl
  rw [e]
  clear e
  go_enter Tryz.func105, Tryz.ntmps105
  go_wp2
  go_loop [8] (fun i => i = .int .i64 0) (fun _ => 0)
  case atStart => rfl
  case round =>
   subst hrel
   go_wp2
   go_ret
   exact ⟨rfl, Below.refl _ _⟩
 ·have HC := hid hc; have HN := hid hn
  rw [hn] at hm
  clear hc hn
  go_enter Tryz.func105, Tryz.ntmps105
  go_wp2
  go_loopw [8] (fun i wr => ∃ k : Nat, k ≤ n ∧ i = .int .i64 k ∧ Hid (∀ j : Nat, j < k → ∀ y, xs[j]? = some y → P y = false) ∧ Below w.heap.size w wr) (fun i _ => n - (intOf i).toNat)
  case atStart => exact ⟨0, Nat.zero_le _, rfl, hid fun j hj => absurd hj (Nat.not_lt_zero _), Below.refl _ _⟩
  case round =>
   obtain ⟨k, hk, rfl, HR, hbw⟩ := hrel
   by_cases hlt : k < n
   ·have hkl : k < xs.length := by rw [HN.out]; exact hlt
    have c0 := HC.out k hkl
    have hlt' : (k : Int) < (n : Int) := by omega
    have hsz := hbw.size
    have hkx : Hid (xs[k]? = some (xs[k]?.getD 0)) := hid (by rw [List.getElem?_eq_getElem hkl]; rfl)
    have d0 := (hbw.cell (p := ⟨b, _, none⟩) hb).trans c0
    have H := HM wr (xs[k]?.getD 0) hbw (List.mem_of_getElem? hkx.out)
    clear c0 hkl
    generalize xs[k]?.getD 0 = s at *
    cases hp : P s
    ·rw [hp] at H
     have HP := hid hp
     clear hp
     go_wp2_with (go_at_call 106; (with_reducible refine (H).mono ?_); rintro e w1 ⟨rfl, hb1⟩; obtain ⟨hc1, hf1⟩ := bcell hb1; (try simp only [World.heap_drewN, World.cell?_drewN, World.frozen?_drewN] at hc1 hf1); have hz1 := hb1.size; (try simp at hz1); (try have hy1_0 : w.heap.size < w1.heap.size := by omega); (try have hy1_1 : w.heap.size + 1 < w1.heap.size := by omega); (try have hx1_0 : w.heap.size ≤ w1.heap.size := by omega); (try have hx1_1 : w.heap.size + 1 ≤ w1.heap.size := by omega))
     go_roundw
     case rel => exact ⟨k + 1, by omega, by go_num, hid fun j hj y hy => by
       by_cases h : j < k
       ·exact HR.out j h y hy
       ·obtain rfl : j = k := by omega
        rw [hkx.out] at hy; cases hy; exact HP.out, by exact below_auto⟩
     case measure => simp [intOf]; omega
    ·rw [hp] at H
     have HP := hid hp
     clear hp
     go_wp2_with (go_at_call 106; (with_reducible refine (H).mono ?_); rintro e w1 ⟨rfl, hb1⟩; obtain ⟨hc1, hf1⟩ := bcell hb1; (try simp only [World.heap_drewN, World.cell?_drewN, World.frozen?_drewN] at hc1 hf1); have hz1 := hb1.size; (try simp at hz1); (try have hy1_0 : w.heap.size < w1.heap.size := by omega); (try have hy1_1 : w.heap.size + 1 < w1.heap.size := by omega); (try have hx1_0 : w.heap.size ≤ w1.heap.size := by omega); (try have hx1_1 : w.heap.size + 1 ≤ w1.heap.size := by omega))
     go_ret
     exact ⟨ret_int (by rw [idxB_some (p := P) hkx.out HP.out HR.out]), by exact below_auto⟩
   ·obtain rfl : k = n := by omega
    go_wp2
    go_ret
    refine ⟨ret_int ?_, by exact below_auto⟩
    rw [idxB_none]
    intro i y hy
    refine HR.out i ?_ y hy
    have := (List.getElem?_eq_some_iff.1 hy).1
    have := HN.out
    omega
end Go.Proofs.YtekmadgacepdfaaGreat.T
namespace Go.Proofs.YtekmadgacepdfaaGreat.T
set_option linter.unusedVariables false
open Go.RowKit Fl Go.Shelf
open Go.Proofs.YtekmadgacepdfaaGreat (wp_region_chain StepsC)
set_option linter.unusedSimpArgs false

theorem intInfoT : (Tryz.prog.info? 3).map (fun i => (i.zero, i.size, i.bytes)) = some (some (.int .i64 0), 1, 8) := by kernel_rfl
theorem rowInfoT : (Tryz.prog.info? 50).map (fun i => (i.zero, i.size, i.bytes)) = some (some (.slice none 0 0), 1, 24) := by kernel_rfl
theorem made_range (v : Value) (hv : v.cells = #[v]) (n : Nat) : (madeCells v.cells ((n + 1) * 1)).toList = (List.range (n + 1)).map fun _ => v := by
 rw [hv]
 refine List.ext_getElem? fun j => ?_
 rw [Nat.mul_one, List.getElem?_map]
 by_cases hj : j < n + 1
 ·rw [List.getElem?_range hj]
  simp [madeCells, Nat.mod_one, hj]
 ·rw [List.getElem?_eq_none_iff.2 (by simp [madeCells]; omega), List.getElem?_eq_none_iff.2 (by simp; omega)]; rfl
theorem make_ints (n : Nat) (h : n ≤ 64) (w : World) :
  ∃ w', (Instr.makeSlice 22 (.int .i64 ((n : Int) + 1)) (.int .i64 ((n : Int) + 1))).run Tryz.prog w = .ok (.slice (some ⟨w.heap.size, 0, none⟩) (n + 1) (n + 1)) w' ∧
   w'.heap[w.heap.size]? = some (.cells ((List.range (n + 1)).map fun _ => Value.int .i64 0).toArray 3 (0, 0)) ∧ w.grownBy w' none := by
 obtain ⟨i0, hi0, hz0, hzs, hzb⟩ := info_parts intInfoT
 obtain ⟨w', h1, h2, h3⟩ := run_make_full (P := Tryz.prog) (w := w) w.heap.size 22 3 i0 _ 1 Tryz.underlying22 hi0 hz0 hzs .i64 .i64 (n + 1) (by rw [hzb]; omega) (by unfold maxLen; omega) (Nat.le_refl _)
 refine ⟨w', h1, ?_, h3⟩
 have h4 := row_full h2
 rw [made_range _ rfl] at h4
 exact h4
theorem make_rows (n : Nat) (h : n ≤ 64) (w : World) :
  ∃ w', (Instr.makeSlice 153 (.int .i64 ((n : Int) + 1)) (.int .i64 ((n : Int) + 1))).run Tryz.prog w = .ok (.slice (some ⟨w.heap.size, 0, none⟩) (n + 1) (n + 1)) w' ∧
   w'.heap[w.heap.size]? = some (.cells ((List.range (n + 1)).map fun _ => Value.slice none 0 0).toArray 50 (0, 0)) ∧ w.grownBy w' none := by
 obtain ⟨i0, hi0, hz0, hzs, hzb⟩ := info_parts rowInfoT
 obtain ⟨w', h1, h2, h3⟩ := run_make_full (P := Tryz.prog) (w := w) w.heap.size 153 50 i0 _ 1 Tryz.underlying153 hi0 hz0 hzs .i64 .i64 (n + 1) (by rw [hzb]; omega) (by unfold maxLen; omega) (Nat.le_refl _)
 refine ⟨w', h1, ?_, h3⟩
 have h4 := row_full h2
 rw [made_range _ rfl] at h4
 exact h4
theorem below_of_grown {w w' : World} (h : w.grownBy w' none) : Below w.heap.size w w' := ⟨h.os, h.tape, h.output, h.size, fun k hk => h.block k hk (by simp)⟩
def cntTo (l : List (Int × Int)) (i : Nat) (k : Nat) : Int := (((l.take i).filter fun e => decide (e.2 = (k : Int))).length : Nat)
def fromT (l : List (Int × Int)) (i : Nat) (k : Nat) : List Int := ((l.take i).filter fun e => decide (e.1 = (k : Int))).map Prod.snd
theorem cntTo_snoc {l : List (Int × Int)} {i : Nat} {m k : Nat} (h : l[i]? = some ((m : Int), (k : Int))) : cntTo l (i + 1) = fun j => if j = k then cntTo l i k + 1 else cntTo l i j := by
 funext j
 unfold cntTo
 rw [List.take_add_one, h, List.filter_append, List.length_append]
 by_cases hj : j = k
 ·subst hj
  rw [if_pos rfl]
  simp
 ·rw [if_neg hj]
  have : ((k : Int) = (j : Int)) = False := by simp; omega
  simp [this]
theorem fromT_snoc {l : List (Int × Int)} {i : Nat} {m k : Nat} (h : l[i]? = some ((m : Int), (k : Int))) : fromT l (i + 1) = upd (fromT l i) m (fromT l i m ++ [(k : Int)]) := by
 funext j
 unfold fromT upd
 rw [List.take_add_one, h, List.filter_append, List.map_append]
 by_cases hj : j = m
 ·subst hj
  rw [if_pos rfl]
  simp
 ·rw [if_neg hj]
  have : ((m : Int) = (j : Int)) = False := by simp; omega
  simp [this]
theorem fromT_len (l : List (Int × Int)) (i k : Nat) : (fromT l i k).length ≤ i := by
 unfold fromT
 rw [List.length_map]
 exact Nat.le_trans (List.length_filter_le _ _) (by rw [List.length_take]; omega)
theorem cntTo_le (l : List (Int × Int)) (i k : Nat) : 0 ≤ cntTo l i k ∧ cntTo l i k ≤ i := by
 unfold cntTo
 have := List.length_filter_le (fun e : Int × Int => decide (e.2 = (k : Int))) (l.take i)
 rw [List.length_take] at this
 omega
theorem idxB_congr {p q : Int → Bool} {l : List Int} (h : ∀ x ∈ l, p x = q x) : idxB p l = idxB q l := by
 have : l.findIdx? p = l.findIdx? q := by
  induction l with
  | nil => rfl
  | cons a l ih =>
   rw [List.findIdx?_cons, List.findIdx?_cons, h a (List.mem_cons_self ..), ih fun x hx => h x (List.mem_cons_of_mem _ hx)]
 unfold idxB
 rw [this]
def lenV : Value → Nat
 | .slice _ n _ => n
 | _ => 0
/-- What has been known since the world W, but for the block A. -/
theorem grownA_below {W V V' : World} {A C : Nat} (h : W.grownBy V (some A)) (hb : Below C V V') (hC : W.heap.size ≤ C) : W.grownBy V' (some A) :=
 ⟨hb.os.trans h.os, hb.tape.trans h.tape, hb.output.trans h.output, Nat.le_trans h.size hb.size, fun k hk hne => (hb.block k (by omega)).trans (h.block k hk hne)⟩
theorem grownA_own {W V V' : World} {A : Nat} {ob : Option Nat} (h : W.grownBy V (some A)) (hg : V.grownBy V' ob) (ho : ∀ g, ob = some g → W.heap.size ≤ g) : W.grownBy V' (some A) :=
 ⟨hg.os.trans h.os, hg.tape.trans h.tape, hg.output.trans h.output, Nat.le_trans h.size hg.size, fun k hk hne => (hg.block k (Nat.lt_of_lt_of_le hk h.size) fun e => by have := ho k e.symm; omega).trans (h.block k hk hne)⟩
theorem grownA_set {W V V' : World} {A : Nat} (h : W.grownBy V (some A)) (hg : V.grownBy V' (some A)) : W.grownBy V' (some A) :=
 ⟨hg.os.trans h.os, hg.tape.trans h.tape, hg.output.trans h.output, Nat.le_trans h.size hg.size, fun k hk hne => (hg.block k (Nat.lt_of_lt_of_le hk h.size) hne).trans (h.block k hk hne)⟩
theorem below_grownA {W V : World} {A C : Nat} {w : World} (hw : Below C w W) (h : W.grownBy V (some A)) (hA : C ≤ A) (hC : C ≤ W.heap.size) : Below C w V :=
 ⟨h.os.trans hw.os, h.tape.trans hw.tape, h.output.trans hw.output, Nat.le_trans hw.size h.size, fun k hk => (h.block k (by omega) (fun e => by have := Option.some.inj e; omega)).trans (hw.block k hk)⟩
end Go.Proofs.YtekmadgacepdfaaGreat.T
