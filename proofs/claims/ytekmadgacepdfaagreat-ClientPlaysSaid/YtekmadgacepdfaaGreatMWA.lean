/- Several texts as one: WA WB WC. -/
import Derived.Test.YtekmadgacepdfaaGreatQ0
import Derived.Test.YtekmadgacepdfaaGreatMUI
import Derived.Test.YtekmadgacepdfaaGreatMUG
import Derived.Deep.CutRange
namespace Go.Proofs.YtekmadgacepdfaaGreat.U
set_option linter.unusedVariables false
open Go.RowKit Fl Go.Maps
open Go.Proofs.YtekmadgacepdfaaGreat.P (bCells)
set_option linter.unusedSimpArgs false

def iEnc (o : OItem) : List Value := [.int .i64 o.seq, o.val]
def iCells (l : List OItem) : List Value := l.flatMap iEnc
def qEnc (r : RItem) : List Value := [.int .i64 r.seq, .int .i64 r.num, .int .i64 r.code]
def qCells (l : List RItem) : List Value := l.flatMap qEnc
theorem iCells_one (l : List OItem) : ∀ u ∈ iCells l, u.oneCell' = true := by
 intro u hu
 obtain ⟨r, _, hr⟩ := List.mem_flatMap.1 hu
 simp only [iEnc, List.mem_cons, List.not_mem_nil, or_false] at hr
 rcases hr with rfl | rfl <;> rfl
theorem qCells_one (l : List RItem) : ∀ u ∈ qCells l, u.oneCell' = true := by
 intro u hu
 obtain ⟨r, _, hr⟩ := List.mem_flatMap.1 hu
 simp only [qEnc, List.mem_cons, List.not_mem_nil, or_false] at hr
 rcases hr with rfl | rfl | rfl <;> rfl
theorem flatW {α : Type} (f : α → List Value) (K : Nat) (hf : ∀ x, (f x).length = K) : ∀ (l : List α) (i t : Nat) (hi : i < l.length), t < K → (l.flatMap f)[i * K + t]? = (f l[i])[t]?
 | [], i, t, hi, _ => by simp at hi
 | a :: l, 0, t, hi, ht => by
  rw [List.flatMap_cons, List.getElem?_append_left (by rw [hf]; omega)]
  simp
 | a :: l, i + 1, t, hi, ht => by
  rw [List.flatMap_cons, List.getElem?_append_right (by rw [hf, Nat.add_mul]; omega), hf, show (i + 1) * K + t - K = i * K + t by rw [Nat.add_mul]; omega]
  exact flatW f K hf l i t (by simpa using hi) ht
structure RC where
 ses : Int
 last : Int
 ms : List Int
 tg : Int
 os : List OItem
 rs : List RItem
 ma : Option Addr
 mc : Nat
 oa : Option Addr
 oc : Nat
 ra : Option Addr
 rc : Nat
def RC.cells (r : RC) : Array Value := #[.int .i64 r.ses, .int .i64 r.last, .slice r.ma r.ms.length r.mc, .int .i64 r.tg, .slice r.oa r.os.length r.oc, .slice r.ra r.rs.length r.rc]
structure RCAt (w : World) (r : RC) : Prop where
 mem : w.ownsRow 0 3 1 (.slice r.ma r.ms.length r.mc) r.ms.length (zCells r.ms)
 ops : w.ownsRow 0 55 2 (.slice r.oa r.os.length r.oc) r.os.length (iCells r.os)
 item : ∀ o ∈ r.os, w.ownsRow 0 5 1 o.val o.bs.length (bCells o.bs)
 res : w.ownsRow 0 61 3 (.slice r.ra r.rs.length r.rc) r.rs.length (qCells r.rs)
theorem fr_stay {w w' : World} {B K n : Nat} {e : TypeId} {v : Value} {cs : List Value} (h : w.ownsRow B e K v n cs) (hf : FrC w w') (h1 : e ≠ 90) (h2 : e ≠ 59) : w'.ownsRow B e K v n cs :=
 own_stay h fun g cur _ hc => (hf g _ hc ⟨h1, h2⟩).trans hc.symm
theorem RCAt.fr {w w' : World} {r : RC} (h : RCAt w r) (hf : FrC w w') : RCAt w' r :=
 ⟨fr_stay h.mem hf (by decide) (by decide), fr_stay h.ops hf (by decide) (by decide), fun o ho => fr_stay (h.item o ho) hf (by decide) (by decide), fr_stay h.res hf (by decide) (by decide)⟩
theorem RCAt.below {w w' : World} {r : RC} (h : RCAt w r) (hb : Below w.heap.size w w') : RCAt w' r := h.fr (FrC.of_below hb)
structure RIs (r : RC) (d : CD) : Prop where
 ses : r.ses = d.ses
 last : r.last = d.last
 ms : r.ms = d.ms
 tg : r.tg = d.ms[d.t]?.getD 0
 os : r.os.map (fun o => (o.seq, o.bs)) = d.os
 rs : r.rs = d.rs
structure DOk (d : CD) : Prop where
 t : d.t < d.ms.length
 m7 : d.ms.length ≤ 7
 up : d.ms.Pairwise (· < ·)
 last : 0 ≤ d.last ∧ d.last ≤ 1099511627776
 num : ∀ o ∈ d.os, 1 ≤ o.1 ∧ o.1 ≤ d.last
 many : d.rs.length + d.os.length = d.last.toNat
theorem itemInfo : (Tryz.prog.info? 55).map (fun i => (i.zero, i.size, i.bytes)) = some (some (.agg #[.int .i64 0, .slice none 0 0]), 2, 32) := by kernel_rfl
theorem ref21Info : (Tryz.prog.info? 61).map (fun i => (i.zero, i.size, i.bytes)) = some (some (.agg #[.int .i64 0, .int .i64 0, .int .i64 0]), 3, 24) := by kernel_rfl
theorem own_sliceW {w : World} {B K n : Nat} {T : TypeId} {v : Value} {cs : List Value} (hK : 0 < K) (h : w.ownsRow B T K v n cs) : ∃ va vc, v = .slice va n vc := by
 rcases h.2 with ⟨rfl, h0⟩ | ⟨g, cap, cur, rfl, _⟩
 ·have h1 := h.1
  rw [h0] at h1
  have : n = 0 := by
   rcases Nat.eq_zero_or_pos n with h2 | h2
   ·exact h2
   ·have := Nat.mul_pos h2 hK
    simp at h1
    omega
  exact ⟨none, 0, by rw [this]⟩
 ·exact ⟨_, _, rfl⟩
theorem appI {w : World} {base : Nat} {a : Option Addr} {c n : Nat} {xs : List OItem} (y : OItem) (hn : xs.length = n) (hown : w.ownsRow base 55 2 (.slice a n c) n (iCells xs)) (hbase : base ≤ w.heap.size) (hl : n ≤ 1099511627776) :
  ∃ a' c' w', (∀ ty, (Builtin.append_ #[27, 27] ty #[.slice a n c, .slice (some ⟨w.heap.size, 0, none⟩) 1 1]).run Tryz.prog (w.alloc (.cells #[.int .i64 y.seq, y.val] 55)) = .ok (.slice a' (n + 1) c') w') ∧
   w'.ownsRow base 55 2 (.slice a' (n + 1) c') (n + 1) (iCells (xs ++ [y])) ∧ Below base w w' ∧ w.grownBy w' (Value.slice a n c).ownBlock := by
 obtain ⟨i0, hi0, hz0, hzs, hzb⟩ := info_parts itemInfo
 have hb1 : Below w.heap.size w (w.alloc (.cells #[.int .i64 y.seq, y.val] 55)) := by (repeat (first | with_reducible exact Below.refl _ _ | ((with_reducible refine Below.alloc1 ?_ ?_ _); (· first | omega | (simp; done) | (simp; omega))) | (with_reducible refine Below.drew ?_) | (with_reducible refine below_drewN' ?_ _) | ((with_reducible refine Below.setCell1 ?_ ?_ _); (· first | omega | (simp; done) | (simp; omega))) | ((with_reducible refine Below.after (by assumption) ?_ ?_); (· first | omega | (simp; done) | (simp; omega)))))
 have hown1 := hown.kept (K.grown_of_below hb1) (by cases (Value.slice a n c).ownBlock <;> simp)
 obtain ⟨v', w', hr, h2, h3⟩ := run_append_own2 (P := Tryz.prog) (w.alloc (.cells #[.int .i64 y.seq, y.val] 55)) base 27 55 i0 _ 2 32 Tryz.underlying27 hi0 hz0 hzs hzb rfl (by omega) _ _ _ hown1 ⟨w.heap.size, 0, none⟩ 1 1 (iEnc y) rfl
  (fun j u hj => by
   have hrow : (w.alloc (.cells #[.int .i64 y.seq, y.val] 55)).heap[w.heap.size]? = some (.cells #[.int .i64 y.seq, y.val] 55 (0, 0)) := heap_alloc_new w _
   rw [K.addr0, cell_of_row _ _ j _ _ (0, 0) hrow]
   rw [← hj]; simp [iEnc]) (fun u hu => iCells_one [y] u (by unfold iCells; simpa using hu)) (by omega) (by unfold maxLen; omega) (by omega) (by simp; omega)
 have hc : iCells xs ++ iEnc y = iCells (xs ++ [y]) := by simp [iCells]
 rw [hc] at h2
 obtain ⟨a', c', rfl⟩ := own_sliceW (by omega) h2
 exact ⟨a', c', w', hr, h2, (hb1.mono hbase).grown h3.1 (by simp; omega) (fun k hk => (hown.lt k hk).1), (World.grownBy_alloc w _ _).trans h3.1⟩
theorem appQ {w : World} {base : Nat} {a : Option Addr} {c n : Nat} {xs : List RItem} (y : RItem) (hn : xs.length = n) (hown : w.ownsRow base 61 3 (.slice a n c) n (qCells xs)) (hbase : base ≤ w.heap.size) (hl : n ≤ 1099511627776) :
  ∃ a' c' w', (∀ ty, (Builtin.append_ #[28, 28] ty #[.slice a n c, .slice (some ⟨w.heap.size, 0, none⟩) 1 1]).run Tryz.prog (w.alloc (.cells #[.int .i64 y.seq, .int .i64 y.num, .int .i64 y.code] 61)) = .ok (.slice a' (n + 1) c') w') ∧
   w'.ownsRow base 61 3 (.slice a' (n + 1) c') (n + 1) (qCells (xs ++ [y])) ∧ Below base w w' ∧ w.grownBy w' (Value.slice a n c).ownBlock := by
 obtain ⟨i0, hi0, hz0, hzs, hzb⟩ := info_parts ref21Info
 have hb1 : Below w.heap.size w (w.alloc (.cells #[.int .i64 y.seq, .int .i64 y.num, .int .i64 y.code] 61)) := by (repeat (first | with_reducible exact Below.refl _ _ | ((with_reducible refine Below.alloc1 ?_ ?_ _); (· first | omega | (simp; done) | (simp; omega))) | (with_reducible refine Below.drew ?_) | (with_reducible refine below_drewN' ?_ _) | ((with_reducible refine Below.setCell1 ?_ ?_ _); (· first | omega | (simp; done) | (simp; omega))) | ((with_reducible refine Below.after (by assumption) ?_ ?_); (· first | omega | (simp; done) | (simp; omega)))))
 have hown1 := hown.kept (K.grown_of_below hb1) (by cases (Value.slice a n c).ownBlock <;> simp)
 obtain ⟨v', w', hr, h2, h3⟩ := run_append_own2 (P := Tryz.prog) (w.alloc (.cells #[.int .i64 y.seq, .int .i64 y.num, .int .i64 y.code] 61)) base 28 61 i0 _ 3 24 Tryz.underlying28 hi0 hz0 hzs hzb rfl (by omega) _ _ _ hown1 ⟨w.heap.size, 0, none⟩ 1 1 (qEnc y) rfl
  (fun j u hj => by
   have hrow : (w.alloc (.cells #[.int .i64 y.seq, .int .i64 y.num, .int .i64 y.code] 61)).heap[w.heap.size]? = some (.cells #[.int .i64 y.seq, .int .i64 y.num, .int .i64 y.code] 61 (0, 0)) := heap_alloc_new w _
   rw [K.addr0, cell_of_row _ _ j _ _ (0, 0) hrow]
   rw [← hj]; simp [qEnc]) (fun u hu => qCells_one [y] u (by unfold qCells; simpa using hu)) (by omega) (by unfold maxLen; omega) (by omega) (by simp; omega)
 have hc : qCells xs ++ qEnc y = qCells (xs ++ [y]) := by simp [qCells]
 rw [hc] at h2
 obtain ⟨a', c', rfl⟩ := own_sliceW (by omega) h2
 exact ⟨a', c', w', hr, h2, (hb1.mono hbase).grown h3.1 (by simp; omega) (fun k hk => (hown.lt k hk).1), (World.grownBy_alloc w _ _).trans h3.1⟩
theorem own_at {w : World} {B K n c i t : Nat} {T : TypeId} {a : Option Addr} {α : Type} {f : α → List Value} (hf : ∀ x, (f x).length = K) {l : List α} {x : α} {v : Value} (h : w.ownsRow B T K (.slice a n c) n (l.flatMap f)) (hx : l[i]? = some x) (ht : t < K) (hv : (f x)[t]? = some v) :
  ∃ g, a = some ⟨g, 0, none⟩ ∧ g < w.heap.size ∧ w.cell? ⟨g, i * K + t, none⟩ = some v := by
 have hi := (List.getElem?_eq_some_iff.1 hx).1
 have hget : (l.flatMap f)[i * K + t]? = some v := by
  rw [flatW f K hf l i t hi ht, (List.getElem?_eq_some_iff.1 hx).2]; exact hv
 rcases h.2 with ⟨h1, h2⟩ | ⟨g, cap, cur, h1, -⟩
 ·have hlt := (List.getElem?_eq_some_iff.1 hget).1
  rw [h.1, h2] at hlt
  simp at hlt
 ·injection h1 with h1 _ _
  subst h1
  refine ⟨g, rfl, (h.lt g rfl).2, ?_⟩
  have := h.cells (g := g) rfl (i * K + t) v hget
  rwa [Go.Proofs.YtekmadgacepdfaaGreat.K.addr0] at this
end Go.Proofs.YtekmadgacepdfaaGreat.U
namespace Go.Proofs.YtekmadgacepdfaaGreat.U
set_option linter.unusedVariables false
open Go.RowKit Fl Go.Maps
open Go.Proofs.YtekmadgacepdfaaGreat.P (bCells)
set_option linter.unusedSimpArgs false

set_option maxRecDepth 100000 in
theorem has08_any (a : Option Addr) (c n : Nat) (l : List Int) (m : Int) (v : Bool) (w : World) (hn : l.length = n) (ha : ZAt w a l) (hv : (l.any fun x => decide (m = x)) = v) :
  Calls Tryz.prog 41 #[.slice a n c, .int .i64 m] w (Ret (.bool v) w) := by
 have hm := ha.len
 rw [hn] at hm
 unfold maxLen at hm
 have HA := hid ha
 have HN := hid hn
 have HV := hid hv
 clear ha hn hv
 go_enter Tryz.func41, Tryz.ntmps41
 go_upto_region 2 with fail
 go_loopw [5] (fun t5 wr => ∃ k : Nat, t5 = .int .i64 (k : Nat) ∧ k ≤ n ∧ Hid (∀ j : Nat, j < k → l[j]? ≠ some m) ∧ Below w.heap.size w wr) (fun t5 _ => n - (intOf t5).toNat)
 case atStart => exact ⟨0, rfl, Nat.zero_le _, hid fun j hj => absurd hj (Nat.not_lt_zero _), Below.refl _ _⟩
 case round =>
  obtain ⟨k, rfl, hk, HJ, hbw⟩ := hrel
  by_cases hlt : k < n
  ·have hkl : k < l.length := by rw [HN.out]; exact hlt
   have hlt' : (k : Int) < (n : Int) := by omega
   have hkx : Hid (l[k]? = some (l[k]?.getD 0)) := hid (by rw [List.getElem?_eq_getElem hkl]; rfl)
   rcases (HA.out.below hbw).row with h0 | ⟨b, o, ha, hbl, hc⟩
   ·rw [h0] at hkl; simp at hkl
   subst ha
   have hc := hc k hkl
   clear hkl
   generalize l[k]?.getD 0 = x at *
   by_cases hx : x = m
   ·have hvt : v = true := by
     rw [← HV.out, List.any_eq_true]
     exact ⟨x, List.mem_of_getElem? hkx.out, decide_eq_true hx.symm⟩
    subst hvt
    have hq : (x == m) = true := by simpa using hx
    clear hx
    go_wp2_with fail
    go_ret
    exact ⟨rfl, hbw⟩
   ·have hq : (x == m) = false := by simpa using hx
    have HJ2 : Hid (∀ j : Nat, j < k + 1 → l[j]? ≠ some m) := hid fun j hj e => by
     by_cases hjk : j < k
     ·exact HJ.out j hjk e
     ·obtain rfl : j = k := by omega
      rw [hkx.out] at e
      exact hx (Option.some.inj e)
    clear hx
    go_wp2_with fail
    go_roundw
    case rel => exact ⟨k + 1, by go_num, by omega, HJ2, hbw⟩
    case measure => simp [intOf]; omega
  ·obtain rfl : k = n := by omega
   have hge : ¬ (k : Int) < (k : Int) := by omega
   have hvf : v = false := by
    rw [← HV.out, List.any_eq_false]
    intro x hx he
    obtain ⟨j, hj⟩ := List.mem_iff_getElem?.1 hx
    have := (List.getElem?_eq_some_iff.1 hj).1
    exact HJ.out j (by have := HN.out; omega) (by rw [hj, of_decide_eq_true he])
   subst hvf
   go_wp2_with fail
   go_ret
   exact ⟨rfl, hbw⟩
theorem set6 {w : World} {B : Nat} {T : TypeId} {z0 z1 z2 z3 z4 z5 : Value} (h : w.heap[B]? = some (.cells #[z0, z1, z2, z3, z4, z5] T (0, 0))) (v0 v1 v2 v3 v4 v5 : Value) :
  ((((((w.setCell ⟨B, 0, none⟩ v0).setCell ⟨B, 1, none⟩ v1).setCell ⟨B, 2, none⟩ v2).setCell ⟨B, 3, none⟩ v3).setCell ⟨B, 4, none⟩ v4).setCell ⟨B, 5, none⟩ v5).heap[B]? = some (.cells #[v0, v1, v2, v3, v4, v5] T (0, 0)) ∧
  w.grownBy ((((((w.setCell ⟨B, 0, none⟩ v0).setCell ⟨B, 1, none⟩ v1).setCell ⟨B, 2, none⟩ v2).setCell ⟨B, 3, none⟩ v3).setCell ⟨B, 4, none⟩ v4).setCell ⟨B, 5, none⟩ v5) (some B) := by
 obtain ⟨a0, b0⟩ := Go.Proofs.YtekmadgacepdfaaGreat.K.set1 (i := 0) h v0
 simp only [qA, qB, qC] at a0
 obtain ⟨a1, b1⟩ := Go.Proofs.YtekmadgacepdfaaGreat.K.set1 (i := 1) a0 v1
 simp only [qA, qB, qC] at a1
 obtain ⟨a2, b2⟩ := Go.Proofs.YtekmadgacepdfaaGreat.K.set1 (i := 2) a1 v2
 simp only [qA, qB, qC] at a2
 obtain ⟨a3, b3⟩ := Go.Proofs.YtekmadgacepdfaaGreat.K.set1 (i := 3) a2 v3
 simp only [qA, qB, qC] at a3
 obtain ⟨a4, b4⟩ := Go.Proofs.YtekmadgacepdfaaGreat.K.set1 (i := 4) a3 v4
 simp only [qA, qB, qC] at a4
 obtain ⟨a5, b5⟩ := Go.Proofs.YtekmadgacepdfaaGreat.K.set1 (i := 5) a4 v5
 simp only [qA, qB, qC] at a5
 exact ⟨a5, ((((b0.trans b1).trans b2).trans b3).trans b4).trans b5⟩
def RBox (w : World) (p : Nat) (cs : Array Value) : Prop := w.heap[p]? = some (.cells cs 30 (0, 0))
theorem RBox.below {w w' : World} {p : Nat} {cs : Array Value} (h : RBox w p cs) (hb : Below w.heap.size w w') : RBox w' p cs := (hb.block p (Array.getElem?_eq_some_iff.1 h).1).trans h
theorem RBox.lt {w : World} {p : Nat} {cs : Array Value} (h : RBox w p cs) : p < w.heap.size := (Array.getElem?_eq_some_iff.1 h).1
theorem RBox.cells {w : World} {p : Nat} {v0 v1 v2 v3 v4 v5 : Value} (h : RBox w p #[v0, v1, v2, v3, v4, v5]) : (w.cell? ⟨p, 0, none⟩ = some v0 ∧ w.cell? ⟨p, 1, none⟩ = some v1 ∧ w.cell? ⟨p, 2, none⟩ = some v2 ∧ w.cell? ⟨p, 3, none⟩ = some v3 ∧ w.cell? ⟨p, 4, none⟩ = some v4 ∧ w.cell? ⟨p, 5, none⟩ = some v5) ∧
  w.frozen? ⟨p, 0, none⟩ = false ∧ w.frozen? ⟨p, 1, none⟩ = false ∧ w.frozen? ⟨p, 2, none⟩ = false ∧ w.frozen? ⟨p, 3, none⟩ = false ∧ w.frozen? ⟨p, 4, none⟩ = false ∧ w.frozen? ⟨p, 5, none⟩ = false := by
 unfold RBox at h
 refine ⟨⟨?_, ?_, ?_, ?_, ?_, ?_⟩, ?_, ?_, ?_, ?_, ?_, ?_⟩
 all_goals first
  | (rw [cell_of_row w p _ _ _ (0, 0) h]; rfl)
  | (rw [World.frozen?]; simp [h])
theorem own_box {w w' : World} {B K n p : Nat} {e : TypeId} {v : Value} {cs : List Value} {bs : Array Value} (h : w.ownsRow B e K v n cs) (hp : RBox w p bs) (hg : w.grownBy w' (some p)) (he : e ≠ 30) : w'.ownsRow B e K v n cs :=
 own_stay h fun g cur hv hc => hg.block g (Array.getElem?_eq_some_iff.1 hc).1 fun h1 => by
  have h2 := Option.some.inj h1
  subst h2
  unfold RBox at hp
  rw [hc] at hp
  simp only [Option.some.injEq, Obj.cells.injEq] at hp
  exact he hp.2.1
theorem RCAt.box {w w' : World} {r : RC} {p : Nat} {bs : Array Value} (h : RCAt w r) (hp : RBox w p bs) (hg : w.grownBy w' (some p)) : RCAt w' r :=
 ⟨own_box h.mem hp hg (by decide), own_box h.ops hp hg (by decide), fun o ho => own_box (h.item o ho) hp hg (by decide), own_box h.res hp hg (by decide)⟩
def RRet (d : CD) (w : World) (e : Ending) (w' : World) : Prop := ∃ r : RC, e = .returned (.agg r.cells) ∧ RCAt w' r ∧ RIs r d ∧ Below w.heap.size w w'
theorem own_le' {w : World} {base base' size n : Nat} {e : TypeId} {v : Value} {xs : List Value} (h : w.ownsRow base e size v n xs) (hb : base' ≤ base) : w.ownsRow base' e size v n xs := Go.Proofs.YtekmadgacepdfaaGreat.K.own_le h hb
set_option maxHeartbeats 1000000 in
set_option maxRecDepth 100000 in
theorem refNew21_any (session : Int) (a : Option Addr) (c n : Nat) (ms : List Int) (w : World) (hn : ms.length = n) (h : ZAt w a ms) :
  Calls Tryz.prog 14 #[.int .i64 session, .slice a n c] w (RRet (newD session ms) w) := by
 have HZ := hid fun W (hb : Below w.heap.size w W) key v hv => has08_any a c n ms key v W hn (h.below hb) hv
 clear h hn
 generalize hD : RRet (newD session ms) w = D
 have HD := hid hD
 clear hD
 go_enter Tryz.func14, Tryz.ntmps14
 go_upto_region 1 with fail
 obtain ⟨w0, hw0⟩ : ∃ w0, w0 = w.alloc (.cells #[.int .i64 0, .int .i64 0, .slice none 0 0, .int .i64 0, .slice none 0 0, .slice none 0 0] 30) := ⟨_, rfl⟩
 have hP : RBox w0 w.heap.size #[.int .i64 0, .int .i64 0, .slice none 0 0, .int .i64 0, .slice none 0 0, .slice none 0 0] := by rw [hw0]; exact heap_alloc_new w _
 have hb0 : Below w.heap.size w w0 := by rw [hw0]; (repeat (first | with_reducible exact Below.refl _ _ | ((with_reducible refine Below.alloc1 ?_ ?_ _); (· first | omega | (simp; done) | (simp; omega))) | (with_reducible refine Below.drew ?_) | (with_reducible refine below_drewN' ?_ _) | ((with_reducible refine Below.setCell1 ?_ ?_ _); (· first | omega | (simp; done) | (simp; omega))) | ((with_reducible refine Below.after (by assumption) ?_ ?_); (· first | omega | (simp; done) | (simp; omega)))))
 rw [← hw0]
 clear hw0
 have HP := hid hP
 have hpl := hP.lt
 obtain ⟨p, hp⟩ : ∃ p, p = w.heap.size := ⟨_, rfl⟩
 rw [← hp] at HP hpl ⊢
 have HPE := hid hp
 have hO0 : (w0.alloc (.cells #[] 3)).ownsRow w0.heap.size 3 1 (.slice (some ⟨w0.heap.size, 0, none⟩) 0 0) 0 (zCells []) := World.ownsRow_made w0 #[] 0 (Nat.le_refl _) (by unfold maxLen; omega) rfl
 have HO0 := hid hO0
 clear hO0 hP hp
 have hz0 := hb0.size
 go_upto_region 3 with fail
 go_loopw [5, 6] (fun t5 t6 wr => ∃ (i q : Nat) (L : List Int) (a' : Option Addr) (c' : Nat), t6 = .int .i64 ((i : Int) + 1) ∧ t5 = .slice a' q c' ∧ i ≤ 7 ∧ q ≤ i ∧ Hid (L.length = q) ∧ Hid (L = pick ms i) ∧ Hid (wr.ownsRow w0.heap.size 3 1 (.slice a' q c') q (zCells L)) ∧ Below w0.heap.size w0 wr) (fun _ t6 _ => 8 - (intOf t6).toNat)
 case atStart => exact ⟨0, 0, [], _, _, rfl, rfl, by omega, by omega, hid rfl, hid rfl, HO0, by (repeat (first | with_reducible exact Below.refl _ _ | ((with_reducible refine Below.alloc1 ?_ ?_ _); (· first | omega | (simp; done) | (simp; omega))) | (with_reducible refine Below.drew ?_) | (with_reducible refine below_drewN' ?_ _) | ((with_reducible refine Below.setCell1 ?_ ?_ _); (· first | omega | (simp; done) | (simp; omega))) | ((with_reducible refine Below.after (by assumption) ?_ ?_); (· first | omega | (simp; done) | (simp; omega)))))⟩
 case round =>
  obtain ⟨i, q, L, a', c', rfl, rfl, hi, hqi, HLN, HL, HW, hb⟩ := hrel
  clear HO0
  have hz := hb.size
  by_cases hlt : i < 7
  ·have hlt' : (i : Int) + 1 ≤ 7 := by omega
   obtain ⟨bv, hbv⟩ : ∃ bv, (ms.any fun x => decide ((i : Int) + 1 = x)) = bv := ⟨_, rfl⟩
   have H := HZ.out wr (hb0.trans (hb.mono hz0)) ((i : Int) + 1) bv hbv
   cases bv with
   | false =>
    have HL2 : Hid (L = pick ms (i + 1)) := hid (by unfold pick; rw [if_neg (by rw [hbv]; decide)]; exact HL.out)
    clear hbv
    go_wp2_with (go_at_call 41; (with_reducible refine (H).mono ?_); rintro e w1 ⟨rfl, hb1⟩; obtain ⟨hc1, hf1⟩ := bcell hb1; (try simp only [qD, qE, qF] at hc1 hf1); have hz1 := hb1.size; (try simp at hz1); (try have hy1_0 : w.heap.size < w1.heap.size := by omega); (try have hy1_1 : w.heap.size + 1 < w1.heap.size := by omega); (try have hy1_2 : w.heap.size + 2 < w1.heap.size := by omega); (try have hy1_3 : w.heap.size + 3 < w1.heap.size := by omega); (try have hx1_0 : w.heap.size ≤ w1.heap.size := by omega); (try have hx1_1 : w.heap.size + 1 ≤ w1.heap.size := by omega); (try have hx1_2 : w.heap.size + 2 ≤ w1.heap.size := by omega); (try have hu1_wr_0 : wr.heap.size < w1.heap.size := by omega); (try have hu1_wr_1 : wr.heap.size + 1 < w1.heap.size := by omega))
    have HW2 := hid (own_stay HW.out fun g cur _ hc => hb1.block g (Array.getElem?_eq_some_iff.1 hc).1)
    go_roundw
    case rel => exact ⟨i + 1, q, L, a', c', by go_num, rfl, by omega, by omega, HLN, HL2, HW2, hb.trans (hb1.mono hz)⟩
    case measure => simp [intOf]; omega
   | true =>
    have HL2 : Hid (L ++ [(i : Int) + 1] = pick ms (i + 1)) := hid (by
     conv => rhs; unfold pick
     rw [if_pos hbv, HL.out])
    clear hbv
    go_wp2_with fail
    refine H.mono ?_
    rintro e w1 ⟨rfl, hb1⟩
    have HW2 := own_stay HW.out fun g cur _ hc => hb1.block g (Array.getElem?_eq_some_iff.1 hc).1
    have hb01 := hb.trans (hb1.mono hz)
    obtain ⟨a2, c2, w2, hr, hown2, hb2, _⟩ := appZ ((i : Int) + 1) HLN.out HW2 hb01.size (by omega)
    have HO2 := hid hown2
    have HB2 := hid (hb01.trans hb2)
    clear hown2 HW2 hb01 hb2 hb1 H
    go_wp2_with (at_builtin; refine Lib.wpList_append_run _ rfl _ _ _ _ rfl _ _ rfl rfl _ _ (hr _) ?_)
    go_roundw
    case rel => exact ⟨i + 1, q + 1, _, a2, c2, by go_num, rfl, by omega, by omega, hid (by rw [List.length_append, HLN.out]; rfl), HL2, HO2, HB2.out⟩
    case measure => simp [intOf]; omega
  ·obtain rfl : i = 7 := by omega
   have fin : ∀ (W : World) (a3 : Option Addr) (c3 q3 : Nat) (L3 : List Int), Hid (L3.length = q3) → Hid (L3 = ring ms) → Hid (W.ownsRow w0.heap.size 3 1 (.slice a3 q3 c3) q3 (zCells L3)) → Below w0.heap.size w0 W → Hid (∃ g m0, a3 = some ⟨g, 0, none⟩ ∧ g < W.heap.size ∧ W.cell? ⟨g, 0, none⟩ = some (.int .i64 m0) ∧ 0 < q3 ∧
     RBox W p #[.int .i64 0, .int .i64 0, .slice none 0 0, .int .i64 0, .slice none 0 0, .slice none 0 0] ∧
     ∀ W', W.grownBy W' (some p) → D (.returned (.agg #[.int .i64 session, .int .i64 0, .slice a3 q3 c3, .int .i64 m0, .slice none 0 0, .slice none 0 0])) W') := fun W a3 c3 q3 L3 hl hL ho hbW => hid (by
    have h0 := (ring_ok ms).1
    rw [← hL.out, hl.out] at h0
    have hl0 : 0 < L3.length := by rw [hl.out]; exact h0
    rcases ho.out.2 with ⟨h1, h2⟩ | ⟨g, cap, cur, h1, -⟩
    ·omega
    injection h1 with h1 _ _
    subst h1
    have hc := ho.out.cells (g := g) rfl 0 (.int .i64 L3[0]) (by unfold zCells; rw [List.getElem?_map, List.getElem?_eq_getElem hl0]; rfl)
    rw [Go.Proofs.YtekmadgacepdfaaGreat.K.addr0] at hc
    have hbx := HP.out.below hbW
    refine ⟨g, L3[0], rfl, (ho.out.lt g rfl).2, hc, h0, hbx, fun W' hg => ?_⟩
    rw [← HD.out]
    refine ⟨⟨session, 0, L3, L3[0], [], [], some ⟨g, 0, none⟩, c3, none, 0, none, 0⟩, ?_, ⟨?_, World.ownsRow_nil _ _ _ _, (fun _ h => nomatch h), World.ownsRow_nil _ _ _ _⟩, ⟨rfl, rfl, ?_, ?_, rfl, rfl⟩, ?_⟩
    ·rw [← hl.out]; rfl
    ·have := own_le' (own_box ho.out hbx hg (by decide)) (Nat.zero_le _)
     rw [← hl.out] at this
     exact this
    ·exact hL.out
    ·show L3[0] = (ring ms)[0]?.getD 0
     have := hL.out
     subst this
     rw [List.getElem?_eq_getElem hl0]; rfl
    ·exact (hb0.trans (hbW.mono hz0)).grown hg (Nat.le_trans hz0 hbW.size) (fun k hk => by cases hk; rw [HPE.out]; exact Nat.le_refl _))
   by_cases hq : q = 0
   ·subst hq
    have hpk : pick ms 7 = [] := by rw [← HL.out]; exact List.eq_nil_of_length_eq_zero HLN.out
    obtain ⟨a2, c2, w2, hr, hown2, hb2, _⟩ := appZ 1 HLN.out HW.out hz (by omega)
    have hL0 : L = [] := List.eq_nil_of_length_eq_zero HLN.out
    have HL3 : Hid (L ++ [1] = ring ms) := hid (by unfold ring; rw [if_pos hpk, hL0]; rfl)
    have HO2 := hid hown2
    have HB2 := hid (hb.trans hb2)
    have F := fin w2 a2 c2 1 (L ++ [1]) (hid (by rw [hL0]; rfl)) HL3 HO2 HB2.out
    clear fin hpk hown2 hb2 hL0 HL3
    obtain ⟨g, m0, rfl, hgl, hc, hq0, hbx, hfin⟩ := F.out
    obtain ⟨⟨p0, p1, p2, p3, p4, p5⟩, f0, f1, f2, f3, f4, f5⟩ := hbx.cells
    have hpw := hbx.lt
    have HS := hid fun v0 v1 v2 v3 v4 v5 => hfin _ (set6 hbx v0 v1 v2 v3 v4 v5).2
    have HS1 := hid fun v0 v1 v2 v3 v4 v5 => (set6 hbx v0 v1 v2 v3 v4 v5).1
    clear hfin F hbx
    go_wp2_with (at_builtin; refine Lib.wpList_append_run _ rfl _ _ _ _ rfl _ _ rfl rfl _ _ (hr _) ?_)
    refine bodyPost_ret (v := .agg #[.int .i64 session, .int .i64 0, .slice (some ⟨g, 0, none⟩) 1 c2, .int .i64 m0, .slice none 0 0, .slice none 0 0]) (by simp [results, Tryz.results14, go_sem, *]) rfl ?_
    exact HS.out _ _ _ _ _ _
   ·have hqp : ¬ ((q : Int) = 0) := by omega
    have hqb : ((q : Int) == 0) = false := by simpa using hqp
    have hne : pick ms 7 ≠ [] := fun e => hq (by rw [← HLN.out, HL.out, e]; rfl)
    have F := fin wr a' c' q L HLN (hid (by unfold ring; rw [if_neg hne]; exact HL.out)) HW hb
    clear fin hne
    obtain ⟨g, m0, rfl, hgl, hc, hq0, hbx, hfin⟩ := F.out
    obtain ⟨⟨p0, p1, p2, p3, p4, p5⟩, f0, f1, f2, f3, f4, f5⟩ := hbx.cells
    have hpw := hbx.lt
    have hq0' : (0 : Int) < (q : Int) := by omega
    have HS := hid fun v0 v1 v2 v3 v4 v5 => hfin _ (set6 hbx v0 v1 v2 v3 v4 v5).2
    clear hfin F hbx
    go_wp2_with fail
    refine bodyPost_ret (v := .agg #[.int .i64 session, .int .i64 0, .slice (some ⟨g, 0, none⟩) q c', .int .i64 m0, .slice none 0 0, .slice none 0 0]) (by simp [results, Tryz.results14, go_sem, *]) rfl ?_
    exact HS.out _ _ _ _ _ _
end Go.Proofs.YtekmadgacepdfaaGreat.U
namespace Go.Proofs.YtekmadgacepdfaaGreat.U
set_option linter.unusedVariables false
open Go.RowKit Fl Go.Maps
open Go.Proofs.YtekmadgacepdfaaGreat.P (bCells)
set_option linter.unusedSimpArgs false

def outH (seq : Int) (os : List OItem) : List OItem := os.filter fun o => !decide (o.seq = seq)
theorem outH_snoc (seq : Int) {os : List OItem} {i : Nat} {o : OItem} (h : os[i]? = some o) : outH seq (os.take (i + 1)) = outH seq (os.take i) ++ (if o.seq = seq then [] else [o]) := by
 unfold outH
 rw [List.take_add_one, h, List.filter_append]
 congr 1
 simp only [Option.toList_some, List.filter_cons, List.filter_nil]
 by_cases hs : o.seq = seq
 ·rw [if_pos hs]; simp [hs]
 ·rw [if_neg hs]; simp [hs]
theorem outH_same {seq : Int} {os : List OItem} (h : (outH seq os).length = os.length) : (os.any fun o => decide (o.seq = seq)) = false := by
 unfold outH at h
 rw [List.length_filter_eq_length_iff] at h
 rw [List.any_eq_false]
 intro o ho
 simpa using h o ho
theorem outH_less {seq : Int} {os : List OItem} (h : (outH seq os).length ≠ os.length) : (os.any fun o => decide (o.seq = seq)) = true := by
 cases ha : os.any fun o => decide (o.seq = seq)
 ·exfalso
  apply h
  unfold outH
  rw [List.length_filter_eq_length_iff]
  intro o ho
  have := List.any_eq_false.1 ha o ho
  simpa using this
 ·rfl
theorem RIs.any {r : RC} {d : CD} (h : RIs r d) (seq : Int) : (d.os.any fun o => decide (o.1 = seq)) = r.os.any fun o => decide (o.seq = seq) := by
 rw [← h.os, List.any_map]; rfl
theorem RIs.filter {r : RC} {d : CD} (h : RIs r d) (seq : Int) : (outH seq r.os).map (fun o => (o.seq, o.bs)) = d.os.filter fun o => !decide (o.1 = seq) := by
 rw [← h.os, List.filter_map]; rfl
def nxH (ms : List Int) (t i : Nat) : Int := if t < i then ms[t + 1]?.getD 0 else ms[0]?.getD 0
theorem nxH_end {ms : List Int} {t i : Nat} (ht : t < ms.length) (hi : i + 1 = ms.length) : nxH ms t i = ms[(t + 1) % ms.length]?.getD 0 := by
 unfold nxH
 by_cases h : t < i
 ·rw [if_pos h, Nat.mod_eq_of_lt (by omega)]
 ·rw [if_neg h]
  have : t + 1 = ms.length := by omega
  rw [this, Nat.mod_self]
theorem nxH_step {ms : List Int} (hu : ms.Pairwise (· < ·)) {t i : Nat} (ht : t < ms.length) (hi : i + 1 < ms.length) : nxH ms t (i + 1) = if ms[i]?.getD 0 = ms[t]?.getD 0 then ms[i + 1]?.getD 0 else nxH ms t i := by
 have hil : i < ms.length := by omega
 have hinj : ms[i]?.getD 0 = ms[t]?.getD 0 ↔ i = t := by
  rw [List.getElem?_eq_getElem hil, List.getElem?_eq_getElem ht]
  simp only [Option.getD_some]
  constructor
  ·intro h
   rcases Nat.lt_trichotomy i t with h1 | h1 | h1
   ·have := List.pairwise_iff_getElem.1 hu i t hil ht h1; omega
   ·exact h1
   ·have := List.pairwise_iff_getElem.1 hu t i ht hil h1; omega
  ·intro h; subst h; rfl
 unfold nxH
 by_cases h : i = t
 ·subst h
  rw [if_pos (by omega), if_pos (hinj.2 rfl)]
 ·rw [if_neg (fun e => h (hinj.1 e))]
  by_cases h2 : t < i
  ·rw [if_pos (by omega), if_pos h2]
  ·rw [if_neg (by omega), if_neg h2]
theorem set3 {w : World} {p : Nat} {v0 v1 v2 v3 v4 v5 : Value} (h : RBox w p #[v0, v1, v2, v3, v4, v5]) (v : Value) : RBox (w.setCell ⟨p, 3, none⟩ v) p #[v0, v1, v2, v, v4, v5] ∧ w.grownBy (w.setCell ⟨p, 3, none⟩ v) (some p) := by
 obtain ⟨a, b⟩ := Go.Proofs.YtekmadgacepdfaaGreat.K.set1 (i := 3) h v
 exact ⟨a, b⟩
theorem set4' {w : World} {p : Nat} {v0 v1 v2 v3 v4 v5 : Value} (h : RBox w p #[v0, v1, v2, v3, v4, v5]) (v : Value) : RBox (w.setCell ⟨p, 4, none⟩ v) p #[v0, v1, v2, v3, v, v5] ∧ w.grownBy (w.setCell ⟨p, 4, none⟩ v) (some p) := by
 obtain ⟨a, b⟩ := Go.Proofs.YtekmadgacepdfaaGreat.K.set1 (i := 4) h v
 exact ⟨a, b⟩
theorem set5' {w : World} {p : Nat} {v0 v1 v2 v3 v4 v5 : Value} (h : RBox w p #[v0, v1, v2, v3, v4, v5]) (v : Value) : RBox (w.setCell ⟨p, 5, none⟩ v) p #[v0, v1, v2, v3, v4, v] ∧ w.grownBy (w.setCell ⟨p, 5, none⟩ v) (some p) := by
 obtain ⟨a, b⟩ := Go.Proofs.YtekmadgacepdfaaGreat.K.set1 (i := 5) h v
 exact ⟨a, b⟩
theorem RBox.other {w w' : World} {p q : Nat} {cs : Array Value} (h : RBox w p cs) (hg : w.grownBy w' (some q)) (hne : p ≠ q) : RBox w' p cs :=
 (hg.block p h.lt fun e => hne (Option.some.inj e)).trans h
set_option maxHeartbeats 4000000 in
set_option maxRecDepth 100000 in
theorem refHeard_any (r : RC) (d : CD) (seq code num e lead : Int) (w : World) (h : RCAt w r) (hi : RIs r d) (hk : DOk d) :
  Calls Tryz.prog 18 #[.agg #[.int .i64 r.ses, .int .i64 r.last, .slice r.ma r.ms.length r.mc, .int .i64 r.tg, .slice r.oa r.os.length r.oc, .slice r.ra r.rs.length r.rc], .int .i64 seq, .int .i64 code, .int .i64 num, .int .i64 e, .int .i64 lead] w (RRet (heardD d seq code num e lead) w) := by
 have HR := hid h; have HI := hid hi; have HK := hid hk
 obtain ⟨no, hno⟩ : ∃ n, n = r.os.length := ⟨_, rfl⟩
 obtain ⟨nr, hnr⟩ : ∃ n, n = r.rs.length := ⟨_, rfl⟩
 obtain ⟨nm, hnm⟩ : ∃ n, n = r.ms.length := ⟨_, rfl⟩
 have hmany := hk.many
 have hlast := hk.last
 have hol : d.os.length = no := by rw [← hi.os, List.length_map, hno]
 have hrl : d.rs.length = nr := by rw [← hi.rs, hnr]
 have hno40 : no ≤ 1099511627776 := by omega
 have hnr40 : nr < 1099511627776 ∨ no = 0 := by omega
 have hnr41 : nr ≤ 1099511627776 := by omega
 have hnm7 : nm ≤ 7 := by rw [hnm, hi.ms]; exact hk.m7
 have hnm0 : 0 < nm := by rw [hnm, hi.ms]; have := hk.t; omega
 have HNO := hid hno; have HNR := hid hnr; have HNM := hid hnm
 rw [← hno, ← hnr, ← hnm]
 clear h hi hk hno hnr hnm hmany hlast hol hrl
 generalize hD : RRet (heardD d seq code num e lead) w = D
 have HD := hid hD
 clear hD
 go_enter Tryz.func18, Tryz.ntmps18
 go_upto_region 1 with fail
 obtain ⟨w0, hw0⟩ : ∃ w0, w0 = (w.alloc (.cells #[.int .i64 r.ses, .int .i64 r.last, .slice r.ma nm r.mc, .int .i64 r.tg, .slice r.oa no r.oc, .slice r.ra nr r.rc] 30)).alloc (.cells #[.int .i64 0, .int .i64 0, .slice none 0 0, .int .i64 0, .slice none 0 0, .slice none 0 0] 30) := ⟨_, rfl⟩
 have hP : RBox w0 w.heap.size #[.int .i64 r.ses, .int .i64 r.last, .slice r.ma nm r.mc, .int .i64 r.tg, .slice r.oa no r.oc, .slice r.ra nr r.rc] := by rw [hw0]; exact (Below.heap_alloc _ _ w.heap.size (by simp)).trans (heap_alloc_new w _)
 have hQ : RBox w0 (w.heap.size + 1) #[.int .i64 0, .int .i64 0, .slice none 0 0, .int .i64 0, .slice none 0 0, .slice none 0 0] := by
  rw [hw0]
  have := heap_alloc_new (w.alloc (.cells #[.int .i64 r.ses, .int .i64 r.last, .slice r.ma nm r.mc, .int .i64 r.tg, .slice r.oa no r.oc, .slice r.ra nr r.rc] 30)) (.cells #[.int .i64 0, .int .i64 0, .slice none 0 0, .int .i64 0, .slice none 0 0, .slice none 0 0] 30)
  simpa [RBox] using this
 have hb0 : Below w.heap.size w w0 := by rw [hw0]; (repeat (first | with_reducible exact Below.refl _ _ | ((with_reducible refine Below.alloc1 ?_ ?_ _); (· first | omega | (simp; done) | (simp; omega))) | (with_reducible refine Below.drew ?_) | (with_reducible refine below_drewN' ?_ _) | ((with_reducible refine Below.setCell1 ?_ ?_ _); (· first | omega | (simp; done) | (simp; omega))) | ((with_reducible refine Below.after (by assumption) ?_ ?_); (· first | omega | (simp; done) | (simp; omega)))))
 rw [← hw0]
 clear hw0
 have hz0 := hb0.size
 have hR0 := HR.out.below hb0
 obtain ⟨p, hp⟩ : ∃ p, p = w.heap.size := ⟨_, rfl⟩
 obtain ⟨q, hq⟩ : ∃ q, q = w.heap.size + 1 := ⟨_, rfl⟩
 have hpw : w.heap.size ≤ p := by omega
 have hqw : w.heap.size ≤ q := by omega
 have hpq : p ≠ q := by omega
 rw [← hq] at hQ ⊢
 rw [← hp] at hP ⊢
 have HP := hid hP; have HQ := hid hQ; have HR0 := hid hR0
 have hpl := hP.lt
 have hql := hQ.lt
 have hO0 : (w0.alloc (.cells #[] 55)).ownsRow w0.heap.size 55 2 (.slice (some ⟨w0.heap.size, 0, none⟩) 0 0) 0 (iCells (outH seq (r.os.take 0))) := World.ownsRow_made w0 #[] 0 (Nat.le_refl _) (by unfold maxLen; omega) rfl
 have HO0 := hid hO0
 have HB0 := hid hb0
 clear hP hQ hR0 hO0 hp hq HR hb0
 go_upto_region 3 with fail
 go_loopw [13, 14] (fun t13 t14 wr => ∃ (i m : Nat) (a' : Option Addr) (c' : Nat), t14 = .int .i64 (i : Nat) ∧ t13 = .slice a' m c' ∧ i ≤ no ∧ m ≤ i ∧ Hid ((outH seq (r.os.take i)).length = m) ∧ Hid (wr.ownsRow w0.heap.size 55 2 (.slice a' m c') m (iCells (outH seq (r.os.take i)))) ∧ Below w0.heap.size w0 wr) (fun _ t14 _ => no - (intOf t14).toNat)
 case atStart => exact ⟨0, 0, _, _, rfl, rfl, Nat.zero_le _, Nat.le_refl _, hid rfl, HO0, by (repeat (first | with_reducible exact Below.refl _ _ | ((with_reducible refine Below.alloc1 ?_ ?_ _); (· first | omega | (simp; done) | (simp; omega))) | (with_reducible refine Below.drew ?_) | (with_reducible refine below_drewN' ?_ _) | ((with_reducible refine Below.setCell1 ?_ ?_ _); (· first | omega | (simp; done) | (simp; omega))) | ((with_reducible refine Below.after (by assumption) ?_ ?_); (· first | omega | (simp; done) | (simp; omega)))))⟩
 case round =>
  obtain ⟨i, m, a', c', rfl, rfl, hi, hmi, HLN, HOW, hb⟩ := hrel
  clear HO0
  have hz := hb.size
  have hbx := HP.out.below hb
  obtain ⟨⟨p0, p1, p2, p3, p4, p5⟩, f0, f1, f2, f3, f4, f5⟩ := hbx.cells
  have hpl2 := hbx.lt
  have hRr := HR0.out.below hb
  by_cases hlt : i < no
  ·have hlt' : (i : Int) < (no : Int) := by omega
   have hil : i < r.os.length := by rw [← HNO.out]; exact hlt
   obtain ⟨o, ho⟩ : ∃ o, r.os[i]? = some o := ⟨_, List.getElem?_eq_getElem hil⟩
   have hops := hRr.ops
   rw [← HNO.out] at hops
   obtain ⟨g, hga, hgl, hc0⟩ := own_at (f := iEnc) (fun _ => rfl) hops ho (t := 0) (by omega) rfl
   obtain ⟨g', hga', -, hc1⟩ := own_at (f := iEnc) (fun _ => rfl) hops ho (t := 1) (by omega) rfl
   rw [hga] at hga' p4
   cases hga'
   rw [Nat.add_zero] at hc0
   have HSN := hid (outH_snoc seq ho)
   clear hops hRr f0 f1 f2 f3 f4 f5 p0 p1 p2 p3 p5 hga
   by_cases hs : o.seq = seq
   ·have hsb : (o.seq != seq) = false := by simpa using hs
    have hsn := HSN.out
    rw [if_pos hs, List.append_nil] at hsn
    have HL2 : Hid ((outH seq (r.os.take (i + 1))).length = m) := hid (by rw [hsn]; exact HLN.out)
    have HO2 : Hid (wr.ownsRow w0.heap.size 55 2 (.slice a' m c') m (iCells (outH seq (r.os.take (i + 1))))) := hid (by rw [hsn]; exact HOW.out)
    clear hs hsn
    go_wp2_with fail
    go_roundw
    case rel => exact ⟨i + 1, m, a', c', by go_num, rfl, by omega, by omega, HL2, HO2, hb⟩
    case measure => simp [intOf]; omega
   ·have hsb : (o.seq != seq) = true := by simpa using hs
    have hsn := HSN.out
    rw [if_neg hs] at hsn
    obtain ⟨a2, c2, w2, hr2, hO2, hb2, -⟩ := appI o HLN.out HOW.out hz (by omega)
    rw [← hsn] at hO2
    have HO2 := hid hO2
    have HL2 : Hid ((outH seq (r.os.take (i + 1))).length = m + 1) := hid (by rw [hsn, List.length_append, HLN.out]; rfl)
    have HB2 := hid (hb.trans hb2)
    clear hs hsn hO2 hb2 HOW
    go_wp2_with (at_builtin; refine Lib.wpList_append_run _ rfl _ _ _ _ rfl _ _ rfl rfl _ _ (hr2 _) ?_)
    go_roundw
    case rel => exact ⟨i + 1, m + 1, a2, c2, by go_num, rfl, by omega, by omega, HL2, HO2, HB2.out⟩
    case measure => simp [intOf]; omega
  ·obtain rfl : i = no := by omega
   have hge : ¬ (i : Int) < (i : Int) := by omega
   have htk : r.os.take i = r.os := by rw [HNO.out, List.take_length]
   rw [htk] at HLN HOW
   obtain ⟨wo, rfl⟩ : ∃ x, x = wr := ⟨_, rfl⟩
   have hbwo := HB0.out.trans (hb.mono hz0)
   have hzwo := hbwo.size
   have HQO := hid (HQ.out.below hb)
   have HPO := hid hbx
   have HRO := hid hRr
   obtain ⟨⟨y0, y1, y2, y3, y4, y5⟩, e0, e1, e2, e3, e4, e5⟩ := HQO.out.cells
   have hqo := HQO.out.lt
   have HBW := hid hbwo
   clear HB0 HP HQ HR0 hbx hRr htk hb hbwo
   by_cases hsame : m = i
   ·have hmb : ((m : Int) == (i : Int)) = true := by simp; omega
    have hany : (d.os.any fun o => decide (o.1 = seq)) = false := by rw [HI.out.any]; exact outH_same (by rw [HLN.out, ← HNO.out]; exact hsame)
    have HFIN := hid fun W' (hg : wo.grownBy W' (some q)) => (show D (.returned (.agg #[.int .i64 r.ses, .int .i64 r.last, .slice r.ma nm r.mc, .int .i64 r.tg, .slice r.oa i r.oc, .slice r.ra nr r.rc])) W' by
     rw [← HD.out]
     refine ⟨r, by rw [HNM.out, HNO.out, HNR.out]; rfl, HRO.out.box HQO.out hg, ?_, HBW.out.grown hg hzwo (fun k hk => by cases hk; exact hqw)⟩
     unfold heardD
     rw [if_pos hany]
     exact HI.out)
    clear hany
    have HS := hid fun v0 v1 v2 v3 v4 v5 => HFIN.out _ (set6 HQO.out v0 v1 v2 v3 v4 v5).2
    subst hsame
    go_wp2_with fail
    refine bodyPost_ret (v := .agg #[.int .i64 r.ses, .int .i64 r.last, .slice r.ma nm r.mc, .int .i64 r.tg, .slice r.oa m r.oc, .slice r.ra nr r.rc]) (by simp [results, Tryz.results18, go_sem, *]) rfl ?_
    exact HS.out _ _ _ _ _ _
   have hmb : ((m : Int) == (i : Int)) = false := by simp; omega
   have hany : (d.os.any fun o => decide (o.1 = seq)) = true := by rw [HI.out.any]; exact outH_less (by rw [HLN.out, ← HNO.out]; exact hsame)
   have HANY := hid hany
   have hi0 : 0 < i := by
    rcases Nat.eq_zero_or_pos i with h0 | h0
    ·omega
    ·exact h0
   have hnr40 : nr < 1099511627776 := by omega
   clear hany hsame
   by_cases he0 : e = 0
   ·subst he0
    obtain ⟨hP1, hg1⟩ := set4' HPO.out (.slice a' m c')
    have hQ1 := HQO.out.other hg1 (Ne.symm hpq)
    have hO1 := own_box HOW.out HPO.out hg1 (by decide)
    have hR1 := HRO.out.box HPO.out hg1
    have hb1 := HBW.out.grown hg1 hzwo (fun k hk => by cases hk; exact hpw)
    go_upto_region 11 with fail
    generalize wo.setCell ⟨p, 4, none⟩ (.slice a' m c') = W1 at *
    have hz1 := hb1.size
    have HP1 := hid hP1; have HQ1 := hid hQ1; have HO1 := hid hO1; have HR1 := hid hR1; have HB1 := hid hb1
    clear hP1 hg1 hQ1 hO1 hR1 hb1 HPO HQO HRO HOW HBW p0 p1 p2 p3 p4 p5 f0 f1 f2 f3 f4 f5 y0 y1 y2 y3 y4 y5 e0 e1 e2 e3 e4 e5 hpl hql hpl2 hqo
    have hpl := HP1.out.lt
    have hql := HQ1.out.lt
    have hX0 : (W1.alloc (.cells #[] 61)).ownsRow W1.heap.size 61 3 (.slice (some ⟨W1.heap.size, 0, none⟩) 0 0) 0 (qCells (r.rs.take 0)) := World.ownsRow_made W1 #[] 0 (Nat.le_refl _) (by unfold maxLen; omega) rfl
    have HX0 := hid hX0
    clear hX0
    go_upto_region 13 with fail
    go_loopw [15, 16] (fun t15 t16 wx => ∃ (j : Nat) (a2 : Option Addr) (c2 : Nat), t16 = .int .i64 (j : Nat) ∧ t15 = .slice a2 j c2 ∧ j ≤ nr ∧ Hid (wx.ownsRow W1.heap.size 61 3 (.slice a2 j c2) j (qCells (r.rs.take j))) ∧ Below W1.heap.size W1 wx) (fun _ t16 _ => nr - (intOf t16).toNat)
    case atStart => exact ⟨0, _, _, rfl, rfl, Nat.zero_le _, HX0, by (repeat (first | with_reducible exact Below.refl _ _ | ((with_reducible refine Below.alloc1 ?_ ?_ _); (· first | omega | (simp; done) | (simp; omega))) | (with_reducible refine Below.drew ?_) | (with_reducible refine below_drewN' ?_ _) | ((with_reducible refine Below.setCell1 ?_ ?_ _); (· first | omega | (simp; done) | (simp; omega))) | ((with_reducible refine Below.after (by assumption) ?_ ?_); (· first | omega | (simp; done) | (simp; omega)))))⟩
    case round =>
     obtain ⟨j, a2, c2, rfl, rfl, hj, HX, hbj⟩ := hrel
     clear HX0
     have hzj := hbj.size
     have hbx := HP1.out.below hbj
     obtain ⟨⟨p0, p1, p2, p3, p4, p5⟩, f0, f1, f2, f3, f4, f5⟩ := hbx.cells
     have hpl2 := hbx.lt
     by_cases hjn : j < nr
     ·have hjn' : (j : Int) < (nr : Int) := by omega
      have hjl : j < r.rs.length := by rw [← HNR.out]; exact hjn
      obtain ⟨x, hx⟩ : ∃ x, r.rs[j]? = some x := ⟨_, List.getElem?_eq_getElem hjl⟩
      have hres := (HR1.out.below hbj).res
      rw [← HNR.out] at hres
      obtain ⟨g, hga, hgl, hc0⟩ := own_at (f := qEnc) (fun _ => rfl) hres hx (t := 0) (by omega) rfl
      obtain ⟨g', hga', -, hc1⟩ := own_at (f := qEnc) (fun _ => rfl) hres hx (t := 1) (by omega) rfl
      obtain ⟨g2, hga2, -, hc2⟩ := own_at (f := qEnc) (fun _ => rfl) hres hx (t := 2) (by omega) rfl
      rw [hga] at hga' hga2 p5
      cases hga'; cases hga2
      rw [Nat.add_zero] at hc0
      obtain ⟨a3, c3, w3, hr3, hO3, hb3, -⟩ := appQ x (show (r.rs.take j).length = j by rw [List.length_take]; omega) HX.out hzj (by omega)
      rw [show r.rs.take j ++ [x] = r.rs.take (j + 1) by rw [List.take_add_one, hx]; rfl] at hO3
      have HO3 := hid hO3
      have HB3 := hid (hbj.trans hb3)
      clear hres hO3 hb3 HX f0 f1 f2 f3 f4 f5 p0 p1 p2 p3 p4 hga
      go_wp2_with (at_builtin; refine Lib.wpList_append_run _ rfl _ _ _ _ rfl _ _ rfl rfl _ _ (hr3 _) ?_)
      go_roundw
      case rel => exact ⟨j + 1, a3, c3, by go_num, rfl, by omega, HO3, HB3.out⟩
      case measure => simp [intOf]; omega
     ·obtain rfl : j = nr := by omega
      have hge2 : ¬ (j : Int) < (j : Int) := by omega
      have htk : r.rs.take j = r.rs := by rw [HNR.out, List.take_length]
      rw [htk] at HX
      obtain ⟨a3, c3, w3, hr3, hO3, hb3, hg3⟩ := appQ ⟨seq, code, num⟩ HNR.out.symm HX.out hzj (by omega)
      have hb13 := hbj.trans hb3
      have hz3 := hb13.size
      have hP3 := HP1.out.below hb13
      obtain ⟨hP4, hg4⟩ := set5' hP3 (.slice a3 (j + 1) c3)
      have hQ4 := (HQ1.out.below hb13).other hg4 (Ne.symm hpq)
      have hO4 := own_box (own_stay HO1.out fun g cur _ hc => hb13.block g (Array.getElem?_eq_some_iff.1 hc).1) hP3 hg4 (by decide)
      have hR4 := (HR1.out.below hb13).box hP3 hg4
      have hX4 := own_box hO3 hP3 hg4 (by decide)
      have hb4 := (HB1.out.trans (hb13.mono hz1)).grown hg4 (Nat.le_trans hz1 hz3) (fun k hk => by cases hk; exact hpw)
      have hz4 := hb4.size
      have HFIN := hid fun W' (hg : (w3.setCell ⟨p, 5, none⟩ (.slice a3 (j + 1) c3)).grownBy W' (some q)) => (show D (.returned (.agg #[.int .i64 r.ses, .int .i64 r.last, .slice r.ma nm r.mc, .int .i64 r.tg, .slice a' m c', .slice a3 (j + 1) c3])) W' by
       rw [← HD.out]
       refine ⟨{ r with os := outH seq r.os, oa := a', oc := c', rs := r.rs ++ [⟨seq, code, num⟩], ra := a3, rc := c3 }, ?_, ⟨(hR4.box hQ4 hg).mem, ?_, fun o ho => (hR4.box hQ4 hg).item o (List.mem_filter.1 ho).1, ?_⟩, ?_, hb4.grown hg hz4 (fun k hk => by cases hk; exact hqw)⟩
       ·have hl1 : (r.rs ++ [(⟨seq, code, num⟩ : RItem)]).length = j + 1 := by rw [List.length_append, ← HNR.out]; rfl
        show Ending.returned _ = Ending.returned (.agg (RC.cells _))
        unfold RC.cells
        simp only
        rw [hl1, HLN.out, HNM.out]
       ·have := own_le' (own_box hO4 hQ4 hg (by decide)) (Nat.zero_le _)
        show World.ownsRow _ 0 _ 2 (.slice a' (outH seq r.os).length c') (outH seq r.os).length (iCells (outH seq r.os))
        rw [HLN.out]; exact this
       ·have := own_le' (own_box hX4 hQ4 hg (by decide)) (Nat.zero_le _)
        have hl1 : (r.rs ++ [(⟨seq, code, num⟩ : RItem)]).length = j + 1 := by rw [List.length_append, ← HNR.out]; rfl
        show World.ownsRow _ 0 _ 3 (.slice a3 (r.rs ++ [(⟨seq, code, num⟩ : RItem)]).length c3) (r.rs ++ [(⟨seq, code, num⟩ : RItem)]).length (qCells (r.rs ++ [(⟨seq, code, num⟩ : RItem)]))
        rw [hl1]; exact this
       ·unfold heardD
        rw [if_neg (by rw [HANY.out]; decide), if_pos rfl]
        exact ⟨HI.out.ses, HI.out.last, HI.out.ms, HI.out.tg, HI.out.filter seq, by show r.rs ++ _ = d.rs ++ _; rw [HI.out.rs]⟩)
      have HP3 := hid hP3; have HP4 := hid hP4; have HQ4 := hid hQ4
      have HS := hid fun v0 v1 v2 v3 v4 v5 => HFIN.out _ (set6 HQ4.out v0 v1 v2 v3 v4 v5).2
      have hpl3 := hP3.lt
      have hql3 : q < w3.heap.size := Nat.lt_of_lt_of_le hql hz3
      obtain ⟨⟨x0, x1, x2, x3, x4, x5⟩, g0, g1, g2, g3, g4, g5⟩ := hP3.cells
      clear hP3 hP4 hg4 hQ4 hO4 hR4 hX4 hb4 hb13 hb3 hg3 hO3 hbx f0 f1 f2 f3 f4 f5 p0 p1 p2 p3 p4 htk
      go_upto_region 17 with (at_builtin; refine Lib.wpList_append_run _ rfl _ _ _ _ rfl _ _ rfl rfl _ _ (hr3 _) ?_)
      clear hr3 x0 x1 x2 x3 x4 x5 g0 g1 g2 g3 g4 g5 hbj
      generalize w3.setCell ⟨p, 5, none⟩ (.slice a3 (j + 1) c3) = W4 at *
      obtain ⟨⟨x0, x1, x2, x3, x4, x5⟩, g0, g1, g2, g3, g4, g5⟩ := HP4.out.cells
      obtain ⟨⟨y0, y1, y2, y3, y4, y5⟩, e0, e1, e2, e3, e4, e5⟩ := HQ4.out.cells
      have hpl4 := HP4.out.lt
      have hql4 := HQ4.out.lt
      go_wp2_with fail
      refine bodyPost_ret (v := .agg #[.int .i64 r.ses, .int .i64 r.last, .slice r.ma nm r.mc, .int .i64 r.tg, .slice a' m c', .slice a3 (j + 1) c3]) (by simp [results, Tryz.results18, go_sem, *]) rfl ?_
      exact HS.out _ _ _ _ _ _
   have heb : (e == 0) = false := by simpa using he0
   clear HOW HLN
   have FT := hid fun (tg : Int) (d' : CD) (hd' : heardD d seq code num e lead = d') (W : World) (hbW : Below w.heap.size w W) (hRW : RCAt W r) (hQW : RBox W q #[.int .i64 0, .int .i64 0, .slice none 0 0, .int .i64 0, .slice none 0 0, .slice none 0 0]) (hIs : RIs { r with tg := tg } d') (W' : World) (hg : W.grownBy W' (some q)) => (show D (.returned (.agg #[.int .i64 r.ses, .int .i64 r.last, .slice r.ma nm r.mc, .int .i64 tg, .slice r.oa i r.oc, .slice r.ra nr r.rc])) W' by
     rw [← HD.out, hd']
     have h1 := hRW.box hQW hg
     exact ⟨{ r with tg := tg }, by rw [HNM.out, HNO.out, HNR.out]; rfl, ⟨h1.mem, h1.ops, h1.item, h1.res⟩, hIs, hbW.grown hg hbW.size (fun k hk => by cases hk; exact hqw)⟩)
   by_cases he1 : e = 181
   ·subst he1
    have hd' : heardD d seq code num 181 lead = d := by
     unfold heardD
     rw [if_neg (by rw [HANY.out]; decide), if_neg (by decide), if_neg (by intro h; omega), if_pos rfl]
    have HS := hid fun v0 v1 v2 v3 v4 v5 => FT.out r.tg d hd' wo HBW.out HRO.out HQO.out HI.out _ (set6 HQO.out v0 v1 v2 v3 v4 v5).2
    clear hd' FT
    go_wp2_with fail
    refine bodyPost_ret (v := .agg #[.int .i64 r.ses, .int .i64 r.last, .slice r.ma nm r.mc, .int .i64 r.tg, .slice r.oa i r.oc, .slice r.ra nr r.rc]) (by simp [results, Tryz.results18, go_sem, *]) rfl ?_
    exact HS.out _ _ _ _ _ _
   have heb1 : (e == 181) = false := by simpa using he1
   obtain ⟨hv, hhv⟩ : ∃ hv, (r.ms.any fun x => decide (lead = x)) = hv := ⟨_, rfl⟩
   have hmem := HRO.out.mem
   have HZA := hid (own_zat rfl hmem (by have := HNM.out; unfold maxLen; omega))
   have HH := hid fun W (hb : Below wo.heap.size wo W) => has08_any r.ma r.mc nm r.ms lead hv W HNM.out.symm (HZA.out.below hb) hhv
   have HHV := hid hhv
   clear hmem hhv
   by_cases hcase : e = 180 ∧ hv = true
   ·obtain ⟨rfl, rfl⟩ := hcase
    have hd' : heardD d seq code num 180 lead = { d with t := (idxB (fun x => decide (lead = x)) d.ms).toNat } := by
     unfold heardD
     rw [if_neg (by rw [HANY.out]; decide), if_neg (by decide), if_pos ⟨rfl, by rw [← HI.out.ms]; exact HHV.out⟩]
    have hidx : lead = d.ms[(idxB (fun x => decide (lead = x)) d.ms).toNat]?.getD 0 := by
     have h1 := HHV.out
     rw [HI.out.ms] at h1
     obtain ⟨k, hk⟩ : ∃ k, d.ms.findIdx? (fun x => decide (lead = x)) = some k := by
      cases hf : d.ms.findIdx? (fun x => decide (lead = x)) with
      | none =>
       rw [List.findIdx?_eq_none_iff] at hf
       rw [List.any_eq_true] at h1
       obtain ⟨x, hx, hx2⟩ := h1
       rw [hf x hx] at hx2; cases hx2
      | some k => exact ⟨k, rfl⟩
     obtain ⟨hkl, hkp, -⟩ := List.findIdx?_eq_some_iff_getElem.1 hk
     unfold idxB
     rw [hk]
     show lead = d.ms[((k : Nat) : Int).toNat]?.getD 0
     rw [Int.toNat_natCast, List.getElem?_eq_getElem hkl]
     exact of_decide_eq_true hkp
    have HD2 := hid hd'; have HIX := hid hidx
    clear hd' hidx
    have HH1 := HH.out wo (Below.refl _ _)
    go_wp2_with fail
    refine HH1.mono ?_
    rintro e w1 ⟨rfl, hb1⟩
    have hP1 := HPO.out.below hb1
    obtain ⟨hP2, hg2⟩ := set3 hP1 (.int .i64 lead)
    have hQ1 := HQO.out.below hb1
    have hQ2 := hQ1.other hg2 (Ne.symm hpq)
    have hR2 := (HRO.out.below hb1).box hP1 hg2
    have hbw1 := HBW.out.trans (hb1.mono hzwo)
    have hb2 := hbw1.grown hg2 hbw1.size (fun k hk => by cases hk; exact hpw)
    have HS := hid fun v0 v1 v2 v3 v4 v5 => FT.out lead _ HD2.out _ hb2 hR2 hQ2 ⟨HI.out.ses, HI.out.last, HI.out.ms, HIX.out, HI.out.os, HI.out.rs⟩ _ (set6 hQ2 v0 v1 v2 v3 v4 v5).2
    have HP2 := hid hP2; have HQ2 := hid hQ2
    have hpl1 := hP1.lt
    clear p0 p1 p2 p3 p4 p5 f0 f1 f2 f3 f4 f5 y0 y1 y2 y3 y4 y5 e0 e1 e2 e3 e4 e5
    obtain ⟨⟨p0, p1, p2, p3, p4, p5⟩, f0, f1, f2, f3, f4, f5⟩ := hP1.cells
    clear hP1 hP2 hg2 hQ1 hQ2 hR2 hb2 hbw1 FT HD2
    go_upto_region 22 with fail
    clear p0 p1 p2 p3 p4 p5 f0 f1 f2 f3 f4 f5 hb1
    generalize w1.setCell ⟨p, 3, none⟩ (.int .i64 lead) = W4 at *
    obtain ⟨⟨x0, x1, x2, x3, x4, x5⟩, g0, g1, g2, g3, g4, g5⟩ := HP2.out.cells
    obtain ⟨⟨y0, y1, y2, y3, y4, y5⟩, e0, e1, e2, e3, e4, e5⟩ := HQ2.out.cells
    have hpl4 := HP2.out.lt
    have hql4 := HQ2.out.lt
    go_wp2_with fail
    refine bodyPost_ret (v := .agg #[.int .i64 r.ses, .int .i64 r.last, .slice r.ma nm r.mc, .int .i64 lead, .slice r.oa i r.oc, .slice r.ra nr r.rc]) (by simp [results, Tryz.results18, go_sem, *]) rfl ?_
    exact HS.out _ _ _ _ _ _
   ·have hd' : heardD d seq code num e lead = { d with t := nextT d } := by
     unfold heardD
     rw [if_neg (by rw [HANY.out]; decide), if_neg he0, if_neg (by rw [← HI.out.ms, HHV.out]; exact hcase), if_neg he1]
    have HD2 := hid hd'
    have HT := HK.out.t
    have hup := HK.out.up
    rw [← HI.out.ms] at HT hup
    have HUP := hid hup
    rw [← HNM.out] at HT
    have HTG : Hid (r.tg = r.ms[d.t]?.getD 0) := hid (by rw [HI.out.tg, HI.out.ms])
    have HNX := hid fun j (hj : j + 1 < nm) => nxH_step HUP.out (t := d.t) (i := j) (by rw [← HNM.out]; exact HT) (by rw [← HNM.out]; exact hj)
    have HEN := hid fun j (hj : j + 1 = nm) => nxH_end (ms := r.ms) (t := d.t) (i := j) (by rw [← HNM.out]; exact HT) (by rw [← HNM.out]; exact hj)
    clear hd'
    go_upto_region 20 with fail
    go_cut [89] from 82 to 89 (fun t89 wc => t89 = .bool false ∧ Below wo.heap.size wo wc)
    case first =>
     by_cases he180 : e = 180
     ·subst he180
      obtain rfl : hv = false := by
       cases hv
       ·rfl
       ·exact absurd ⟨rfl, rfl⟩ hcase
      have HH1 := HH.out wo (Below.refl _ _)
      go_wp2_with fail
      refine HH1.mono ?_
      rintro e w1 ⟨rfl, hb1⟩
      clear HH1
      go_wp2_with fail
      go_meet
      case rel => exact ⟨rfl, hb1⟩
     ·have heb2 : (e == 180) = false := by simpa using he180
      go_wp2_with fail
      go_meet
      case rel => exact ⟨rfl, Below.refl _ _⟩
    case rest =>
     obtain ⟨rfl, hbc⟩ := hcut
     obtain ⟨W1, rfl⟩ : ∃ x, x = wc := ⟨_, rfl⟩
     have HP1 := hid (HPO.out.below hbc); have HQ1 := hid (HQO.out.below hbc); have HR1 := hid (HRO.out.below hbc)
     have HB1 := hid (HBW.out.trans (hbc.mono hzwo))
     have HZ1 := hid (HZA.out.below hbc)
     have hz1 := HB1.out.size
     clear p0 p1 p2 p3 p4 p5 f0 f1 f2 f3 f4 f5 y0 y1 y2 y3 y4 y5 e0 e1 e2 e3 e4 e5 hpl hql hpl2 hqo HPO HQO HRO HBW HZA HH HHV hcase heb heb1 he0 he1 hbc
     obtain ⟨⟨p0, p1, p2, p3, p4, p5⟩, f0, f1, f2, f3, f4, f5⟩ := HP1.out.cells
     have hpl := HP1.out.lt
     have hql := HQ1.out.lt
     rcases HZ1.out.row with h0 | ⟨g, o, hga, hgl, hgc⟩
     ·exfalso
      have := HNM.out
      rw [h0] at this
      simp at this
      omega
     have HGC := hid hgc
     have hc0 := hgc 0 (by rw [← HNM.out]; exact hnm0)
     rw [Nat.add_zero] at hc0
     rw [hga] at p2
     have HM0 : Hid (nxH r.ms d.t 0 = r.ms[0]?.getD 0) := hid (by unfold nxH; rw [if_neg (by omega)])
     have hnm0' : (0 : Int) < (nm : Int) := by omega
     have HGA := hid hga
     clear hgc hga
     generalize hm0 : r.ms[0]?.getD 0 = m0 at *
     clear hm0
     go_upto_region 25 with fail
     clear hc0 p0 p1 p2 p3 p4 p5 f0 f1 f2 f3 f4 f5
     go_loopw [17, 18] (fun t17 t18 wx => ∃ j : Nat, t18 = .int .i64 (j : Nat) ∧ t17 = .int .i64 (nxH r.ms d.t j) ∧ j + 1 ≤ nm ∧ Below W1.heap.size W1 wx) (fun _ t18 _ => nm - (intOf t18).toNat)
     case atStart => exact ⟨0, rfl, by rw [HM0.out], by omega, Below.refl _ _⟩
     case round =>
      obtain ⟨j, rfl, rfl, hj, hbj⟩ := hrel
      have hzj := hbj.size
      have hbx := HP1.out.below hbj
      obtain ⟨⟨p0, p1, p2, p3, p4, p5⟩, f0, f1, f2, f3, f4, f5⟩ := hbx.cells
      rw [HGA.out] at p2
      have hpl2 := hbx.lt
      have hgl2 := Nat.lt_of_lt_of_le hgl hzj
      by_cases hjn : j + 1 < nm
      ·have hjn' : (j : Int) + 1 < (nm : Int) := by omega
       have hjn2 : (j : Int) < (nm : Int) := by omega
       have cj := (hbj.cell (p := ⟨g, o + j, none⟩) hgl).trans (HGC.out j (by rw [← HNM.out]; omega))
       have cj1 := (hbj.cell (p := ⟨g, o + (j + 1), none⟩) hgl).trans (HGC.out (j + 1) (by rw [← HNM.out]; omega))
       have HS := hid (HNX.out j hjn)
       rw [← HTG.out] at HS
       generalize r.ms[j]?.getD 0 = mj at *
       generalize r.ms[j + 1]?.getD 0 = mk at *
       clear f0 f1 f2 f3 f4 f5 p0 p1 p4 p5 hbx
       by_cases hmt : mj = r.tg
       ·have hb1 : (mj == r.tg) = true := by simpa using hmt
        have HV : Hid (mk = nxH r.ms d.t (j + 1)) := hid (by rw [HS.out, if_pos hmt])
        clear hmt HS
        go_upto_region 27 with fail
        go_quiet (fail)
        go_wp2_with fail
        go_roundw
        case rel => exact ⟨j + 1, by go_num, by rw [← HV.out], by omega, below_drewN' hbj _⟩
        case measure => simp [intOf]; omega
       ·have hb1 : (mj == r.tg) = false := by simpa using hmt
        have HV : Hid (nxH r.ms d.t j = nxH r.ms d.t (j + 1)) := hid (by rw [HS.out, if_neg hmt])
        clear hmt HS
        go_upto_region 27 with fail
        go_quiet (fail)
        go_wp2_with fail
        go_roundw
        case rel => exact ⟨j + 1, by go_num, by rw [← HV.out], by omega, below_drewN' hbj _⟩
        case measure => simp [intOf]; omega
      ·have hje : j + 1 = nm := by omega
       have hge2 : ¬ (j : Int) + 1 < (nm : Int) := by omega
       have hnx : nxH r.ms d.t j = d.ms[nextT d]?.getD 0 := by
        rw [HEN.out j hje]
        unfold nextT
        rw [HI.out.ms]
       have HIX := hid hnx
       generalize nxH r.ms d.t j = tg at *
       obtain ⟨hP2, hg2⟩ := set3 hbx (.int .i64 tg)
       have hQ1 := HQ1.out.below hbj
       have hQ2 := hQ1.other hg2 (Ne.symm hpq)
       have hR2 := (HR1.out.below hbj).box hbx hg2
       have hbw1 := HB1.out.trans (hbj.mono hz1)
       have hb2 := hbw1.grown hg2 hbw1.size (fun k hk => by cases hk; exact hpw)
       have HS := hid fun v0 v1 v2 v3 v4 v5 => FT.out tg _ HD2.out _ hb2 hR2 hQ2 ⟨HI.out.ses, HI.out.last, HI.out.ms, HIX.out, HI.out.os, HI.out.rs⟩ _ (set6 hQ2 v0 v1 v2 v3 v4 v5).2
       have HP2 := hid hP2; have HQ2 := hid hQ2
       clear hP2 hg2 hQ1 hQ2 hR2 hb2 hbw1 FT HD2 hnx HNX HEN hbx
       rw [← HGA.out] at p2
       go_upto_region 30 with fail
       clear p0 p1 p2 p3 p4 p5 f0 f1 f2 f3 f4 f5 hbj
       generalize wr.setCell ⟨p, 3, none⟩ (.int .i64 tg) = W4 at *
       obtain ⟨⟨x0, x1, x2, x3, x4, x5⟩, g0, g1, g2, g3, g4, g5⟩ := HP2.out.cells
       obtain ⟨⟨y0, y1, y2, y3, y4, y5⟩, e0, e1, e2, e3, e4, e5⟩ := HQ2.out.cells
       have hpl4 := HP2.out.lt
       have hql4 := HQ2.out.lt
       go_wp2_with fail
       refine bodyPost_ret (v := .agg #[.int .i64 r.ses, .int .i64 r.last, .slice r.ma nm r.mc, .int .i64 tg, .slice r.oa i r.oc, .slice r.ra nr r.rc]) (by simp [results, Tryz.results18, go_sem, *]) rfl ?_
       exact HS.out _ _ _ _ _ _
end Go.Proofs.YtekmadgacepdfaaGreat.U
