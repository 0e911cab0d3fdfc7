/- Several texts as one: UI UJ. -/
import Derived.Test.YtekmadgacepdfaaGreatQ0
import Derived.Test.YtekmadgacepdfaaGreatMUD
import Derived.Test.YtekmadgacepdfaaGreatMNC
namespace Go.Proofs.YtekmadgacepdfaaGreat.U
set_option linter.unusedVariables false
open Go.RowKit Fl Go.Maps
open Go.Proofs.YtekmadgacepdfaaGreat.P (bCells)
set_option linter.unusedSimpArgs false

structure CD where
 ses : Int
 last : Int
 ms : List Int
 t : Nat
 os : List (Int × List Nat)
 rs : List RItem
def CL.d (c : CL) : CD := ⟨c.ses, c.last, c.ms, c.t, c.os.map fun o => (o.seq, o.bs), c.rs⟩
def nextT (d : CD) : Nat := (d.t + 1) % d.ms.length
def heardD (d : CD) (seq code num e lead : Int) : CD :=
 if (d.os.any fun o => decide (o.1 = seq)) = false then d else
 if e = 0 then { d with os := d.os.filter fun o => !decide (o.1 = seq), rs := d.rs ++ [⟨seq, code, num⟩] } else
 if e = 180 ∧ (d.ms.any fun x => decide (lead = x)) = true then { d with t := (idxB (fun x => decide (lead = x)) d.ms).toNat } else
 if e = 181 then d else { d with t := nextT d }
def okB : Obj → Prop
 | .cells _ T _ => T ≠ 90 ∧ T ≠ 59
 | _ => False
def FrC (w w' : World) : Prop := ∀ (k : Nat) (o : Obj), w.heap[k]? = some o → okB o → w'.heap[k]? = some o
theorem FrC.trans {a b c : World} (h : FrC a b) (k : FrC b c) : FrC a c := fun j o hj ho => k j o (h j o hj ho) ho
theorem FrC.of_below {w w' : World} (h : Below w.heap.size w w') : FrC w w' := fun k o hk _ => (h.block k (Array.getElem?_eq_some_iff.1 hk).1).trans hk
theorem FrC.of_grown {w w' : World} {row : Option Nat} (h : w.grownBy w' row) (hr : ∀ (q : Nat) (o : Obj), row = some q → w.heap[q]? = some o → ¬ okB o) : FrC w w' := fun k o hk ho =>
 (h.block k (Array.getElem?_eq_some_iff.1 hk).1 fun e => hr k o e.symm hk ho).trans hk
def HRet (B p : Nat) (d : CD) (ma : Option Addr) (w : World) (e : Ending) (w' : World) : Prop := e = .returned (.tuple #[]) ∧ (Below B w w' ∧ FrC w w') ∧ ∃ c, CAt B p c w' ∧ c.d = d ∧ c.ma = ma

theorem stay_of {w w' : World} {B K n q : Nat} {e : TypeId} {v : Value} {cs : List Value} (h : w.ownsRow B e K v n cs) (hg : w.grownBy w' (some q)) (hq : ∀ cur, w.heap[q]? ≠ some (.cells cur e (0, 0))) : w'.ownsRow B e K v n cs :=
 own_stay h fun g cur hv hc => hg.block g (Array.getElem?_eq_some_iff.1 hc).1 fun he => by
  have := Option.some.inj he
  subst this
  exact hq cur hc
theorem CAt.beside {B p : Nat} {c : CL} {w w' : World} (h : CAt B p c w) (hg : w.grownBy w' (some p)) :
  w'.ownsRow B 3 1 (.slice c.ma c.ms.length c.mc) c.ms.length (zCells c.ms) ∧ w'.ownsMap (H := Value) Tryz.prog 2 heldR c.mb c.last.toNat (datOf c.os) ∧ (∀ o ∈ c.os, w'.ownsRow B 5 1 o.val o.bs.length (bCells o.bs)) ∧ w'.ownsRow B 59 3 (.slice c.ra c.rs.length c.rc) c.rs.length (rCells c.rs) := by
 have hne : ∀ T, T ≠ 90 → ∀ cur, w.heap[p]? ≠ some (.cells cur T (0, 0)) := fun T hT cur he => by
  rw [h.box] at he
  simp only [Option.some.injEq, Obj.cells.injEq] at he
  exact hT he.2.1.symm
 refine ⟨stay_of h.mem hg (hne _ (by decide)), ?_, fun o ho => stay_of (h.item o ho) hg (hne _ (by decide)), stay_of h.res hg (hne _ (by decide))⟩
 refine map_stay h.map (hg.block _ h.map.lt fun he => ?_)
 have he := Option.some.inj he
 obtain ⟨es, clock, hb, _⟩ := h.map
 rw [he, h.box] at hb
 cases hb
theorem CAt.setT {B p t : Nat} {c : CL} {w : World} (h : CAt B p c w) (ht : t < c.ms.length) : CAt B p { c with t := t } (w.setCell ⟨p, 3, none⟩ (.int .i64 t)) ∧ w.grownBy (w.setCell ⟨p, 3, none⟩ (.int .i64 t)) (some p) := by
 obtain ⟨h1, h2⟩ := K.set1 (i := 3) h.box (.int .i64 (t : Nat))
 obtain ⟨b1, b2, b3, b4⟩ := h.beside h2
 exact ⟨⟨h1, h.hp, b1, b2, h.hm, b3, h.byte, h.rise, h.num, h.last, b4, h.many, ht, h.ring, h.ses⟩, h2⟩
theorem box_ok {p : Nat} {cs : Array Value} {w : World} (h : w.heap[p]? = some (.cells cs 90 (0, 0))) : ∀ (q : Nat) (o : Obj), some p = some q → w.heap[q]? = some o → ¬ okB o := by
 intro q o e ho hk
 have e := Option.some.inj e
 subst e
 rw [h] at ho
 cases ho
 exact hk.1 rfl
theorem map_ok {b : Nat} {w w' : World} (h : w.mapTurned w' b) : ∀ (q : Nat) (o : Obj), some b = some q → w.heap[q]? = some o → ¬ okB o := by
 intro q o e ho hk
 have e := Option.some.inj e
 subst e
 obtain ⟨es, clock, es', clock', hb, _⟩ := h
 rw [hb] at ho
 cases ho
 exact hk
theorem grown_below' {B p : Nat} {w w' : World} (h : w.grownBy w' (some p)) (hp : B ≤ p) (hB : B ≤ w.heap.size) : Below B w w' :=
 ⟨h.os, h.tape, h.output, h.size, fun k hk => h.block k (by omega) fun e => by have := Option.some.inj e; omega⟩
structure CParts (B p : Nat) (c : CL) (w : World) : Prop where
 box : w.heap[p]? = some (.cells c.cells 90 (0, 0))
 mem : w.ownsRow B 3 1 (.slice c.ma c.ms.length c.mc) c.ms.length (zCells c.ms)
 map : w.ownsMap (H := Value) Tryz.prog 2 heldR c.mb c.last.toNat (datOf c.os)
 item : ∀ o ∈ c.os, w.ownsRow B 5 1 o.val o.bs.length (bCells o.bs)
 res : w.ownsRow B 59 3 (.slice c.ra c.rs.length c.rc) c.rs.length (rCells c.rs)
theorem CAt.parts {B p : Nat} {c : CL} {w : World} (h : CAt B p c w) : CParts B p c w := ⟨h.box, h.mem, h.map, h.item, h.res⟩
theorem CParts.stay {B p : Nat} {c : CL} {w w' : World} (h : CParts B p c w) (hb : Below w.heap.size w w') : CParts B p c w' := by
 have hlt : ∀ {g : Nat} {o : Obj}, w.heap[g]? = some o → g < w.heap.size := fun h => (Array.getElem?_eq_some_iff.1 h).1
 exact ⟨(hb.block p (hlt h.box)).trans h.box, own_stay h.mem fun g cur _ hg => hb.block g (hlt hg), map_stay h.map (hb.block _ h.map.lt), fun o ho => own_stay (h.item o ho) fun g cur _ hg => hb.block g (hlt hg), own_stay h.res fun g cur _ hg => hb.block g (hlt hg)⟩
theorem CParts.turned {B p : Nat} {c : CL} {w w' : World} {os : List OItem} (h : CParts B p c w) (ht : w.mapTurned w' c.mb) (hm : w'.ownsMap (H := Value) Tryz.prog 2 heldR c.mb c.last.toNat (datOf os)) (hos : ∀ o ∈ os, o ∈ c.os) : CParts B p { c with os := os } w' := by
 have hg := ht.grown
 obtain ⟨es, clock, es', clock', hb, _⟩ := ht
 have hq : ∀ T cur, w.heap[c.mb]? ≠ some (.cells cur T (0, 0)) := fun T cur he => by rw [hb] at he; cases he
 refine ⟨?_, stay_of h.mem hg (hq _), hm, fun o ho => stay_of (h.item o (hos o ho)) hg (hq _), stay_of h.res hg (hq _)⟩
 have hlt := (Array.getElem?_eq_some_iff.1 h.box).1
 exact (hg.block p hlt fun he => by
  have he := Option.some.inj he
  have := h.box
  rw [he, hb] at this
  cases this).trans h.box
theorem stay_own {w w' : World} {B K n B' K' n' : Nat} {e e' : TypeId} {v v' : Value} {cs cs' : List Value} (h : w.ownsRow B e K v n cs) (hv : w.ownsRow B' e' K' v' n' cs') (hT : e' ≠ e) (hg : w.grownBy w' v'.ownBlock) : w'.ownsRow B e K v n cs :=
 own_stay h fun g cur _ hc => hg.block g (Array.getElem?_eq_some_iff.1 hc).1 fun he => by
  obtain ⟨cur', hb⟩ := own_blk hv he.symm
  rw [hc] at hb
  simp only [Option.some.injEq, Obj.cells.injEq] at hb
  exact hT hb.2.1.symm
theorem CParts.grown {B p : Nat} {c : CL} {w w' : World} {rs : List RItem} {ra : Option Addr} {rc : Nat} (h : CParts B p c w) (hg : w.grownBy w' (Value.slice c.ra c.rs.length c.rc).ownBlock) (hr : w'.ownsRow B 59 3 (.slice ra rs.length rc) rs.length (rCells rs)) :
  w'.heap[p]? = some (.cells c.cells 90 (0, 0)) ∧ w'.ownsRow B 3 1 (.slice c.ma c.ms.length c.mc) c.ms.length (zCells c.ms) ∧ w'.ownsMap (H := Value) Tryz.prog 2 heldR c.mb c.last.toNat (datOf c.os) ∧ ∀ o ∈ c.os, w'.ownsRow B 5 1 o.val o.bs.length (bCells o.bs) := by
 have hne : ∀ q o, w.heap[q]? = some o → (∀ cur, o ≠ Obj.cells cur 59 (0, 0)) → w'.heap[q]? = w.heap[q]? := fun q o hq ho => hg.block q (Array.getElem?_eq_some_iff.1 hq).1 fun he => by
  obtain ⟨cur, hb⟩ := own_blk h.res he.symm
  rw [hq] at hb
  exact ho cur (Option.some.inj hb)
 refine ⟨(hne p _ h.box fun cur he => ?_).trans h.box, stay_own h.mem h.res (by decide) hg, ?_, fun o ho => stay_own (h.item o ho) h.res (by decide) hg⟩
 ·simp only [Obj.cells.injEq] at he
  exact absurd he.2.1 (by decide)
 ·obtain ⟨es, clock, hb, _⟩ := h.map
  exact map_stay h.map (hne _ _ hb fun cur he => by cases he)
theorem appR {w : World} {base : Nat} {a : Option Addr} {c n : Nat} {xs : List RItem} (r : RItem) (hn : xs.length = n) (hown : w.ownsRow base 59 3 (.slice a n c) n (rCells xs)) (hbase : base ≤ w.heap.size) (hl : n ≤ 1099511627776) :
  ∃ a' c' w', (∀ ty, (Builtin.append_ #[56, 56] ty #[.slice a n c, .slice (some ⟨w.heap.size, 0, none⟩) 1 1]).run Tryz.prog (w.alloc (.cells #[.int .i64 r.seq, .int .i64 r.code, .int .i64 r.num] 59)) = .ok (.slice a' (n + 1) c') w') ∧
   w'.ownsRow base 59 3 (.slice a' (n + 1) c') (n + 1) (rCells (xs ++ [r])) ∧ w.grownBy w' (Value.slice a n c).ownBlock := by
 obtain ⟨i0, hi0, hz0, hzs, hzb⟩ := info_parts resInfo
 have hown1 := hown.kept (World.grownBy_alloc w (.cells #[.int .i64 r.seq, .int .i64 r.code, .int .i64 r.num] 59) none) (by cases (Value.slice a n c).ownBlock <;> simp)
 obtain ⟨v', w', hr, h2, h3⟩ := run_append_own2 (P := Tryz.prog) (w.alloc (.cells #[.int .i64 r.seq, .int .i64 r.code, .int .i64 r.num] 59)) base 56 59 i0 _ 3 24 Tryz.underlying56 hi0 hz0 hzs hzb rfl (by omega) _ _ _ hown1 ⟨w.heap.size, 0, none⟩ 1 1 (rEnc r) rfl
  (fun j u hj => by
   have hrow : (w.alloc (.cells #[.int .i64 r.seq, .int .i64 r.code, .int .i64 r.num] 59)).heap[w.heap.size]? = some (.cells #[.int .i64 r.seq, .int .i64 r.code, .int .i64 r.num] 59 (0, 0)) := heap_alloc_new w _
   rw [K.addr0, cell_of_row _ _ j _ _ (0, 0) hrow]
   rw [← hj]; simp [rEnc]) (fun u hu => rCells_one [r] u (by unfold rCells; simpa using hu)) (by omega) (by unfold maxLen; omega) (by omega) (by simp; omega)
 have hc : rCells xs ++ rEnc r = rCells (xs ++ [r]) := by simp [rCells]
 rw [hc] at h2
 obtain ⟨a', c', rfl⟩ := cloneR_shape h2
 exact ⟨a', c', w', hr, h2, (World.grownBy_alloc w _ _).trans h3.1⟩
theorem filter_once {os : List OItem} {seq : Int} (hr : Rising os) (h : (os.any fun o => decide (o.seq = seq)) = true) : (os.filter fun o => !decide (o.seq = seq)).length + 1 = os.length := by
 induction os with
 | nil => cases h
 | cons o os ih =>
  obtain ⟨h1, h2⟩ := List.pairwise_cons.1 hr
  by_cases ho : o.seq = seq
  ·have : os.filter (fun o => !decide (o.seq = seq)) = os := by
    rw [List.filter_eq_self]
    intro x hx
    have := h1 x hx
    simp; omega
   rw [List.filter_cons, if_neg (by simp [ho]), this, List.length_cons]
  ·rw [List.any_cons] at h
   have h3 : (os.any fun o => decide (o.seq = seq)) = true := by simpa [ho] using h
   have := ih h2 h3
   rw [List.filter_cons, if_pos (by simp [ho]), List.length_cons, List.length_cons]; omega
theorem CAt.closed {B p : Nat} {c : CL} {w1 w2 w3 : World} {seq : Int} {r : RItem} {ra : Option Addr} {rc : Nat} (h : CAt B p c w1) (hseq : r.seq = seq) (hop : (c.os.any fun o => decide (o.seq = seq)) = true) (ht : w1.mapTurned w2 c.mb) (hm : w2.ownsMap (H := Value) Tryz.prog 2 heldR c.mb c.last.toNat (datOf (c.os.filter fun o => !decide (o.seq = seq))))
  (hg : w2.grownBy w3 (Value.slice c.ra c.rs.length c.rc).ownBlock) (hr : w3.ownsRow B 59 3 (.slice ra (c.rs.length + 1) rc) (c.rs.length + 1) (rCells (c.rs ++ [r]))) (hB : B ≤ w1.heap.size) :
  CAt B p { c with os := c.os.filter fun o => !decide (o.seq = seq), rs := c.rs ++ [r], ra := ra, rc := rc } (w3.setCell ⟨p, 5, none⟩ (.slice ra (c.rs.length + 1) rc)) ∧ (Below B w1 (w3.setCell ⟨p, 5, none⟩ (.slice ra (c.rs.length + 1) rc)) ∧ FrC w1 (w3.setCell ⟨p, 5, none⟩ (.slice ra (c.rs.length + 1) rc))) := by
 have hl : (c.rs ++ [r]).length = c.rs.length + 1 := by simp
 have hp2 := h.parts.turned ht hm (fun o ho => (List.mem_filter.1 ho).1)
 rw [← hl] at hr
 obtain ⟨b0, b1, b2, b3⟩ := hp2.grown hg hr
 obtain ⟨h1, h2⟩ := K.set1 (i := 5) b0 (.slice ra (c.rs.length + 1) rc)
 have hne : ∀ T, T ≠ 90 → ∀ cur, w3.heap[p]? ≠ some (.cells cur T (0, 0)) := fun T hT cur he => by
  rw [b0] at he
  simp only [Option.some.injEq, Obj.cells.injEq] at he
  exact hT he.2.1.symm
 have hfo := filter_once h.rise hop
 refine ⟨⟨?_, h.hp, stay_of b1 h2 (hne _ (by decide)), ?_, h.hm, fun o ho => stay_of (b3 o ho) h2 (hne _ (by decide)), fun o ho => h.byte o ((List.mem_filter.1 ho).1), rising_filter h.rise, fun o ho => h.num o ((List.mem_filter.1 ho).1), h.last, stay_of hr h2 (hne _ (by decide)), ?_, h.tgt, h.ring, h.ses⟩, ?_⟩
 ·rw [h1]
  unfold CL.cells
  simp only [hl]
  rfl
 ·refine map_stay b2 (h2.block _ b2.lt fun he => ?_)
  have he := Option.some.inj he
  obtain ⟨es, clock, hb, _⟩ := b2
  rw [he, b0] at hb
  cases hb
 ·have := h.many
  simp only [hl]
  omega
 ·have g1 : Below B w1 w2 := grown_below' ht.grown h.hm hB
  have g2 : Below B w2 w3 := ⟨hg.os, hg.tape, hg.output, hg.size, fun k hk => hg.block k (by have := g1.size; omega) fun he => by
   have := (hp2.res.lt k he.symm).1
   omega⟩
  refine ⟨(g1.trans g2).trans (grown_below' h2 h.hp (by have := g1.size; have := g2.size; omega)), ((FrC.of_grown ht.grown (map_ok ht)).trans (FrC.of_grown hg fun q o hq ho hk => ?_)).trans (FrC.of_grown h2 (box_ok b0))⟩
  obtain ⟨cur, hb⟩ := own_blk hp2.res hq
  rw [hb] at ho
  cases ho
  exact hk.2 rfl
end Go.Proofs.YtekmadgacepdfaaGreat.U
namespace Go.Proofs.YtekmadgacepdfaaGreat.U
set_option linter.unusedVariables false
open Go.RowKit Fl Go.Maps
set_option linter.unusedSimpArgs false

theorem lit_wf {n : Int} (h : -9223372036854775808 ≤ n ∧ n ≤ 9223372036854775807) : (Lit.int .i64 n).wf = true := by
 simp only [Lit.wf, IntKind.min, IntKind.max, Bool.and_eq_true]
 exact ⟨decide_eq_true h.1, decide_eq_true h.2⟩
theorem look_ok' {B p : Nat} {c : CL} {w : World} (h : CAt B p c w) {seq : Int} (hs : -9223372036854775808 ≤ seq ∧ seq ≤ 9223372036854775807) :
  ∃ v, (Instr.lookup 88 (.map (some c.mb)) (.int .i64 seq) true).run Tryz.prog w = .ok (.tuple #[v, .bool (c.os.any fun o => decide (o.seq = seq))]) w := by
 obtain ⟨v, ps, hrun, hv⟩ := h.map.look_ok mapKeyed Tryz.underlying88 (Tryz.zeroValue47 w) (zd := .held (.slice none 0 0)) (zp := []) rfl (keyOf_int_mk Tryz.underlying2 (lit_wf hs))
 rw [dat_has] at hrun
 exact ⟨v, hrun⟩
theorem any_d (c : CL) (seq : Int) : (c.d.os.any fun o => decide (o.1 = seq)) = c.os.any fun o => decide (o.seq = seq) := by
 unfold CL.d
 rw [List.any_map]; rfl
theorem next_mod {t n : Nat} (h : t < n) : Int.tmod ((t : Int) + 1) (n : Int) = (((t + 1) % n : Nat) : Int) ∧ ((t : Int) + 1) % (n : Int) = (((t + 1) % n : Nat) : Int) := by
 constructor
 ·exact (Int.ofNat_tmod (t + 1) n).symm ▸ rfl
 ·show ((t + 1 : Nat) : Int) % (n : Int) = _
  exact (Int.natCast_emod (t + 1) n).symm
set_option maxHeartbeats 2000000 in
set_option maxRecDepth 100000 in
theorem heard_any (B p : Nat) (c : CL) (seq code num e lead : Int) (w : World) (h : CAt B p c w) (hs : -9223372036854775808 ≤ seq ∧ seq ≤ 9223372036854775807) :
  Calls Tryz.prog 17 #[.pointer (some ⟨p, 0, none⟩), .int .i64 seq, .agg #[.int .i64 code, .int .i64 num], .int .i64 e, .int .i64 lead] w (HRet B p (heardD c.d seq code num e lead) c.ma w) := by
 have HC := hid h
 have HLK := hid fun W (hb : Below w.heap.size w W) => look_ok' (HC.out.below hb) hs
 have HZI := hid fun W (hb : Below w.heap.size w W) => zIndex_any c.ma c.mc lead c.ms _ W rfl (own_zat rfl (HC.out.below hb).mem (by have := HC.out.ring.1; unfold maxLen; omega))
 have hp := h.lt
 have hBp := h.hp
 obtain ⟨D, hD⟩ : ∃ D, D = heardD c.d seq code num e lead := ⟨_, rfl⟩
 rw [← hD]
 have HD := hid hD
 unfold heardD at HD
 rw [any_d] at HD
 have HS := hid hs
 clear h hD hs
 go_enter Tryz.func17, Tryz.ntmps17
 go_upto_region 1 with fail
 generalize hW1 : World.alloc _ _ = w1 at *
 have hA : Below w.heap.size w w1 := by rw [← hW1]; (repeat (first | with_reducible exact Below.refl _ _ | ((with_reducible refine Below.alloc1 ?_ ?_ _); (· first | omega | (simp; done) | (simp; omega))) | (with_reducible refine Below.drew ?_) | (with_reducible refine below_drewN' ?_ _) | ((with_reducible refine Below.setCell1 ?_ ?_ _); (· first | omega | (simp; done) | (simp; omega))) | ((with_reducible refine Below.after (by assumption) ?_ ?_); (· first | omega | (simp; done) | (simp; omega)))))
 have hz1 : w.heap.size < w1.heap.size := by rw [← hW1]; simp
 have q0 : w1.cell? ⟨w.heap.size, 0, none⟩ = some (.int .i64 code) := by rw [← hW1]; simp [go_sem]
 have q1 : w1.cell? ⟨w.heap.size, 1, none⟩ = some (.int .i64 num) := by rw [← hW1]; simp [go_sem]
 have hq : w1.heap[w.heap.size]? = some (.cells #[.int .i64 code, .int .i64 num] 38 (0, 0)) := by rw [← hW1]; simpa using heap_alloc_new w _
 clear hW1
 have HC1 := hid (HC.out.below hA)
 obtain ⟨v, hl⟩ := HLK.out w1 hA
 obtain ⟨b0, b1, b2, b3, b4, b5⟩ := HC1.out.cells
 have hp1 := HC1.out.lt
 have bz := fun j => (show w1.frozen? ⟨p, j, none⟩ = false by simp [World.frozen?, HC1.out.box])
 have HZ := hid (HZI.out w1 hA)
 have hBw : B ≤ w.heap.size := by omega
 clear HZI HLK
 generalize hop : (c.os.any fun o => decide (o.seq = seq)) = op at *
 have HOP := hid hop
 clear hop
 cases op with
 | false =>
  rw [if_pos rfl] at HD
  clear q0 q1 hq b0 b1 b2 b3 b5 HZ bz
  go_wp2_with fail
  exact bodyPost_ret (v := .tuple #[]) (by simp [results, Tryz.results17, go_sem]) rfl ⟨rfl, ⟨hA.mono hBw, FrC.of_below hA⟩, c, HC1.out, HD.out.symm, rfl⟩
 | true =>
  rw [if_neg (by decide)] at HD
  go_upto_region 4 with (go_at_call 46; (with_reducible refine (HZ.out).mono ?_); rintro e w' ⟨rfl, rfl⟩)
  clear hl HZ b0 b1
  by_cases he : e = 0
  ·subst he
   rw [if_pos rfl] at HD
   clear b2 b3
   obtain ⟨w2, hdel, hown2, hturn⟩ := HC1.out.map.drop mapKeyed Tryz.underlying88 (keyOf_int_mk Tryz.underlying2 (lit_wf HS.out)) 0
   have hown3 := hown2
   rw [dat_del] at hown3
   have hz2 := hturn.grown.size
   have hp2 := HC1.out.parts.turned hturn hown3 (fun o ho => (List.mem_filter.1 ho).1)
   obtain ⟨Y0, hY0⟩ : ∃ Y : World, Y = { w2 with drawn := w2.drawn + 1 } := ⟨_, rfl⟩
   have hb0 : Below w2.heap.size w2 Y0 := by rw [hY0]; exact Below.drew (Below.refl _ w2)
   have z0 : Y0.heap.size = w2.heap.size := by rw [hY0]
   have hpy := hp2.stay (hb0.mono (Nat.le_refl _))
   obtain ⟨a', c', Y3, hrun, hown', hgr⟩ := appR ⟨seq, code, num⟩ rfl hpy.res (by omega) HC1.out.rs_len
   have hg3 : w2.grownBy Y3 (Value.slice c.ra c.rs.length c.rc).ownBlock := ⟨hgr.os.trans hb0.os, hgr.tape.trans hb0.tape, hgr.output.trans hb0.output, by have := hgr.size; omega, fun k hk hn => (hgr.block k (by omega) hn).trans (hb0.block k hk)⟩
   obtain ⟨hfin, hbel⟩ := HC1.out.closed rfl HOP.out hturn hown3 hg3 hown' (by omega)
   have hbox := hpy.box
   have hbox1 : (Y0.alloc (.cells #[.int .i64 seq, .int .i64 code, .int .i64 num] 59)).heap[p]? = _ := ((World.grownBy_alloc Y0 _ none).block p (by omega) (by simp)).trans hbox
   have hbox3 := (hpy.grown hgr (rs := c.rs ++ [⟨seq, code, num⟩]) (ra := a') (rc := c') (by simpa using hown')).1
   have k0 : Y0.cell? ⟨p, 5, none⟩ = some (.slice c.ra c.rs.length c.rc) := by rw [cell_of_row Y0 p 5 _ _ (0, 0) hbox]; rfl
   have k1 : (Y0.alloc (.cells #[.int .i64 seq, .int .i64 code, .int .i64 num] 59)).cell? ⟨p, 5, none⟩ = some (.slice c.ra c.rs.length c.rc) := by rw [cell_of_row _ p 5 _ _ (0, 0) hbox1]; rfl
   have k3 : Y3.cell? ⟨p, 5, none⟩ = some (.slice c.ra c.rs.length c.rc) := by rw [cell_of_row _ p 5 _ _ (0, 0) hbox3]; rfl
   have f3 : Y3.frozen? ⟨p, 5, none⟩ = false := by simp [World.frozen?, hbox3]
   have hqy : Y0.heap[w.heap.size]? = some (.cells #[.int .i64 code, .int .i64 num] 38 (0, 0)) := (hb0.block _ (by omega)).trans ((hturn.grown.block _ hz1 (fun he => by
    have he := Option.some.inj he
    obtain ⟨es, clock, hb, _⟩ := HC1.out.map
    rw [← he, hq] at hb
    cases hb)).trans hq)
   have v0 : Y0.cell? ⟨w.heap.size, 0, none⟩ = some (.int .i64 code) := by rw [cell_of_row Y0 _ 0 _ _ (0, 0) hqy]; rfl
   have v1 : Y0.cell? ⟨w.heap.size, 1, none⟩ = some (.int .i64 num) := by rw [cell_of_row Y0 _ 1 _ _ (0, 0) hqy]; rfl
   have HK0 := hid k0; have HK1 := hid k1; have HK3 := hid k3; have HF3 := hid f3; have HV0 := hid v0; have HV1 := hid v1; have HRUN := hid hrun; have HY0 := hid hY0; have HFIN := hid hfin; have HBEL := hid (And.intro (hA.mono hBw |>.trans hbel.1) ((FrC.of_below hA).trans hbel.2))
   have HCD : Hid (D = CL.d { c with os := c.os.filter fun o => !decide (o.seq = seq), rs := c.rs ++ [⟨seq, code, num⟩], ra := a', rc := c' }) := hid (by
    rw [HD.out]
    unfold CL.d
    simp only [List.filter_map]
    rfl)
   clear hown2 hown3 hturn hp2 hb0 z0 hpy hown' hgr hg3 hfin hbel hbox hbox1 hbox3 k0 k1 k3 f3 hqy v0 v1 hrun hY0 q0 q1 hq b5
   obtain ⟨Y4, hY4⟩ : ∃ Y : World, Y = Y3.setCell ⟨p, 5, none⟩ (.slice a' (c.rs.length + 1) c') := ⟨_, rfl⟩
   rw [← hY4] at HFIN HBEL
   have HY4 := hid hY4
   clear hY4
   generalize c.rs.length = n at *
   go_upto_region 6 with fail
   clear hdel b4
   refine wp_region_chain (fun q => [Value.pointer (some ⟨p, 0, none⟩), .pointer (some ⟨p, 0, none⟩), .pointer (some ⟨p, 0, none⟩), .pointer (some ⟨p, 5, none⟩), .slice c.ra n c.rc, .int .i64 seq, .agg #[.int .i64 code, .int .i64 num], .agg #[.int .i64 seq, .int .i64 code, .int .i64 num], .slice (some ⟨Y0.heap.size, 0, none⟩) 1 1, .slice a' (n + 1) c', .pointer (some ⟨p, 0, none⟩), .pointer (some ⟨p, 5, none⟩)].getD q undef) (fun q X => X = [Y0, Y0.alloc (.cells #[.int .i64 seq, .int .i64 code, .int .i64 num] 59), Y3, Y4].getD q Y0) (fun _ _ => False) [8, 9, 12] rfl (by kernel_rfl) (by kernel_rfl) (by decide) (by decide) HY0.out.symm ?_ ?_ ?_
   ·simp only [StepsC, List.nil_append, List.cons_append]
    refine ⟨?xp0, ?xp1, ?xp2, ?xp3, ?xl4, ?xp5, ?xl6, ?xp7, ?xbs, ?xap, ?xp10, ?xp11, ?xst, trivial⟩
    case xl4 =>
     intro jj X g1 g2 hx
     have hj : jj = 0 ∨ jj = 1 := by have : jj ≤ 1 := Nat.le_trans g2 (by decide +kernel); omega
     have c4 : X.cell? ⟨p, 5, none⟩ = some (.slice c.ra n c.rc) := by
      rw [hx]
      rcases hj with rfl | rfl
      ·exact HK0.out
      ·exact HK1.out
     generalize hR : (fun v w' => (_ → v = _) ∧ _) = RR
     have HR := hid hR
     have HXX := hid hx
     clear hR g1 g2 hx
     try simp only [putsFrom, Act.put, qA, qB, qC, Nat.zero_add, Nat.reduceAdd, List.getD_cons_zero, List.getD_cons_succ]
     go_wp2_with fail
     have hR := HR.out
     subst hR
     exact ⟨rfl, fun _ => rfl, HXX.out⟩
    case xl6 =>
     intro jj X g1 g2 hx
     obtain rfl : jj = 0 := Nat.le_zero.1 (Nat.le_trans g2 (by decide +kernel))
     obtain rfl : X = Y0 := hx
     have v0 := HV0.out; have v1 := HV1.out
     generalize hR : (fun v w' => (_ → v = _) ∧ _) = RR
     have HR := hid hR
     clear hR g1 g2
     try simp only [putsFrom, Act.put, qA, qB, qC, Nat.zero_add, Nat.reduceAdd, List.getD_cons_zero, List.getD_cons_succ]
     go_wp2_with fail
     have hR := HR.out
     subst hR
     exact ⟨rfl, fun _ => rfl, rfl⟩
    case xbs =>
     intro jj X g1 g2 hx
     obtain rfl : jj = 0 := Nat.le_zero.1 (Nat.le_trans g2 (by decide +kernel))
     obtain rfl : X = Y0 := hx
     generalize hR : (fun v w' => (_ → v = _) ∧ _) = RR
     have HR := hid hR
     clear hR g1 g2
     simp only [putsFrom, Act.put, qA, qB, qC, Nat.zero_add, Nat.reduceAdd, List.getD_cons_zero, List.getD_cons_succ]
     go_wp2_with fail
     have hR := HR.out
     subst hR
     exact ⟨rfl, fun _ => rfl, rfl⟩
    case xap =>
     intro jj X g1 g2 hx
     obtain rfl : jj = 1 := Nat.le_antisymm (Nat.le_trans g2 (by decide +kernel)) (Nat.le_trans (by decide +kernel) g1)
     obtain rfl : X = Y0.alloc (.cells #[.int .i64 seq, .int .i64 code, .int .i64 num] 59) := hx
     generalize hR : (fun v w' => (_ → v = _) ∧ _) = RR
     have HR := hid hR
     clear hR g1 g2
     simp only [putsFrom, Act.put, qA, qB, qC, Nat.zero_add, Nat.reduceAdd, List.getD_cons_zero, List.getD_cons_succ]
     go_wp2_with (at_builtin; refine Lib.wpList_append_run _ rfl _ _ _ _ rfl _ _ rfl rfl _ _ (HRUN.out _) ?_)
     have hR := HR.out
     subst hR
     exact ⟨rfl, fun _ => rfl, rfl⟩
    case xst =>
     intro jj X g1 g2 hx
     obtain rfl : jj = 2 := Nat.le_antisymm (Nat.le_trans g2 (by decide +kernel)) (Nat.le_trans (by decide +kernel) g1)
     obtain rfl : X = Y3 := hx
     have k3 := HK3.out; have f3 := HF3.out
     generalize hR : (fun v w' => (_ → v = _) ∧ _) = RR
     have HR := hid hR
     clear hR g1 g2
     simp only [putsFrom, Act.put, qA, qB, qC, Nat.zero_add, Nat.reduceAdd, List.getD_cons_zero, List.getD_cons_succ]
     go_wp2_with fail
     have hR := HR.out
     subst hR
     exact ⟨rfl, fun h => absurd rfl h, HY4.out.symm⟩
    all_goals
     intro jj X g1 g2 hx
     generalize hR : (fun v w' => (_ → v = _) ∧ _) = RR
     have HR := hid hR
     have HXX := hid hx
     clear hR g1 g2 hx
     try simp only [putsFrom, Act.put, qA, qB, qC, Nat.zero_add, Nat.reduceAdd, List.getD_cons_zero, List.getD_cons_succ]
     go_wp2_with fail
     have hR := HR.out
     subst hR
     exact ⟨rfl, fun _ => rfl, HXX.out⟩
   ·intro X hx
    obtain rfl : X = Y4 := hx
    simp only [putsFrom, Act.put, qA, qB, qC, Nat.zero_add, Nat.reduceAdd, List.getD_cons_zero, List.getD_cons_succ]
    go_wp2_with fail
    exact bodyPost_ret (v := .tuple #[]) (by simp [results, Tryz.results17, go_sem]) rfl ⟨rfl, HBEL.out, _, HFIN.out, HCD.out.symm, rfl⟩
   ·exact fun _ _ _ _ hx => hx.elim
  ·rw [if_neg he] at HD
   have hix := idxB_any (fun x => decide (lead = x)) c.ms
   by_cases h1 : e = 180 ∧ (c.d.ms.any fun x => decide (lead = x)) = true
   ·rw [if_pos h1] at HD
    obtain ⟨rfl, hany⟩ := h1
    change (c.ms.any fun x => decide (lead = x)) = true at hany
    rw [hany, decide_eq_true_eq] at hix
    have hlt : (idxB (fun x => decide (lead = x)) c.ms).toNat < c.ms.length := by
     unfold idxB at hix ⊢
     cases hf : c.ms.findIdx? (fun x => decide (lead = x)) with
     | none => rw [hf] at hix; exact absurd hix (by decide)
     | some k => exact (List.findIdx?_eq_some_iff_getElem.1 hf).1
    obtain ⟨hfin, hgr⟩ := HC1.out.setT hlt
    have HFIN := hid hfin; have HBEL := hid (And.intro ((hA.mono hBw).trans (grown_below' hgr hBp (by omega))) ((FrC.of_below hA).trans (FrC.of_grown hgr (box_ok HC1.out.box))))
    have HD2 : Hid (D = CL.d { c with t := (idxB (fun x => decide (lead = x)) c.ms).toNat }) := hid HD.out
    have hk : idxB (fun x => decide (lead = x)) c.ms = (((idxB (fun x => decide (lead = x)) c.ms).toNat : Nat) : Int) := (Int.toNat_of_nonneg hix).symm
    generalize (idxB (fun x => decide (lead = x)) c.ms).toNat = k at *
    rw [hk]
    clear hfin hgr hany hix hk hlt b2 b4 b5 q0 q1 hq
    have bz3 := bz 3
    clear bz
    go_wp2_with fail
    exact bodyPost_ret (v := .tuple #[]) (by simp [results, Tryz.results17, go_sem]) rfl ⟨rfl, HBEL.out, _, HFIN.out, HD2.out.symm, rfl⟩
   ·rw [if_neg h1] at HD
    by_cases h181 : e = 181
    ·subst h181
     rw [if_pos rfl] at HD
     clear hix h1 he b2 b3 b4 b5 q0 q1 hq bz
     generalize idxB (fun x => decide (lead = x)) c.ms = ix at *
     go_wp2_with fail
     exact bodyPost_ret (v := .tuple #[]) (by simp [results, Tryz.results17, go_sem]) rfl ⟨rfl, ⟨hA.mono hBw, FrC.of_below hA⟩, c, HC1.out, HD.out.symm, rfl⟩
    ·rw [if_neg h181] at HD
     have hi : e = 180 → ¬ 0 ≤ idxB (fun x => decide (lead = x)) c.ms := fun h => by
      intro h0
      refine h1 ⟨h, ?_⟩
      show (c.ms.any fun x => decide (lead = x)) = true
      rw [← hix]; simpa using h0
     clear hix h1 bz
     generalize idxB (fun x => decide (lead = x)) c.ms = ix at *
     by_cases h180 : e = 180
     ·subst h180
      have hi := hi rfl
      clear he h181
      have hnt := next_mod HC1.out.tgt
      obtain ⟨hm1, hm2⟩ := hnt
      obtain ⟨Y0, hY0⟩ : ∃ Y : World, Y = { w1 with drawn := w1.drawn + 1 } := ⟨_, rfl⟩
      have hb0 : Below w1.heap.size w1 Y0 := by rw [hY0]; exact Below.drew (Below.refl _ w1)
      have HCY := hid (HC1.out.below hb0)
      obtain ⟨hfin, hgr⟩ := HCY.out.setT (t := (c.t + 1) % c.ms.length) (Nat.mod_lt _ (by have := HC1.out.tgt; omega))
      have z0 : Y0.heap.size = w1.heap.size := by rw [hY0]
      have HFIN := hid hfin
      have HBEL := hid (And.intro ((hA.mono hBw).trans ((hb0.mono (by omega)).trans (grown_below' hgr hBp (by omega)))) ((FrC.of_below hA).trans ((FrC.of_below hb0).trans (FrC.of_grown hgr (box_ok HCY.out.box)))))
      have HCD : Hid (D = CL.d { c with t := (c.t + 1) % c.ms.length }) := hid HD.out
      have ht7 : c.t < c.ms.length := HC1.out.tgt
      have hr7 : c.ms.length ≤ 7 := HC1.out.ring.1
      obtain ⟨y0, y1, y2, y3, y4, y5⟩ := HCY.out.cells
      have yf : Y0.frozen? ⟨p, 3, none⟩ = false := by simp [World.frozen?, HCY.out.box]
      have HY0 := hid hY0; have Y2 := hid y2; have Y3' := hid y3; have YF := hid yf
      generalize (c.t + 1) % c.ms.length = nt at *
      obtain ⟨Y1, hY1⟩ : ∃ Y : World, Y = Y0.setCell ⟨p, 3, none⟩ (.int .i64 nt) := ⟨_, rfl⟩
      rw [← hY1] at HFIN HBEL
      have HY1 := hid hY1
      have HM1 := hid hm1; have HM2 := hid hm2
      clear hY0 hb0 hfin hgr z0 y0 y1 y2 y3 y4 y5 yf hY1 b2 b3 b4 b5 q0 q1 hq hm1 hm2
      generalize c.t = t at *
      generalize c.ms.length = n at *
      go_upto_region 10 with fail
      refine wp_region_chain (fun q => [Value.pointer (some ⟨p, 0, none⟩), .pointer (some ⟨p, 0, none⟩), .pointer (some ⟨p, 0, none⟩), .pointer (some ⟨p, 3, none⟩), .int .i64 (t : Nat), .int .i64 ((t : Int) + 1), .pointer (some ⟨p, 0, none⟩), .pointer (some ⟨p, 0, none⟩), .pointer (some ⟨p, 2, none⟩), .slice c.ma n c.mc, .int .i64 (n : Nat), .int .i64 (nt : Nat), .pointer (some ⟨p, 0, none⟩), .pointer (some ⟨p, 3, none⟩)].getD q undef) (fun q X => X = [Y0, Y1].getD q Y0) (fun _ _ => False) [14] rfl (by kernel_rfl) (by kernel_rfl) (by decide) (by decide) HY0.out.symm ?_ ?_ ?_
      ·simp only [StepsC, List.nil_append, List.cons_append]
       refine ⟨?yp0, ?yp1, ?yp2, ?yp3, ?yl4, ?yp5, ?yp6, ?yp7, ?yp8, ?yl9, ?yp10, ?ym, ?yp12, ?yp13, ?yst, trivial⟩
       case yst =>
        intro jj X g1 g2 hx
        obtain rfl : jj = 0 := Nat.le_zero.1 (Nat.le_trans g2 (by decide +kernel))
        obtain rfl : X = Y0 := hx
        have k3 := Y3'.out; have f3 := YF.out
        generalize hR : (fun v w' => (_ → v = _) ∧ _) = RR
        have HR := hid hR
        clear hR g1 g2
        simp only [putsFrom, Act.put, qA, qB, qC, Nat.zero_add, Nat.reduceAdd, List.getD_cons_zero, List.getD_cons_succ]
        go_wp2_with fail
        have hR := HR.out
        subst hR
        exact ⟨rfl, fun h => absurd rfl h, HY1.out.symm⟩
       case ym =>
        intro jj X g1 g2 hx
        have hm1 := HM1.out; have hm2 := HM2.out
        generalize hR : (fun v w' => (_ → v = _) ∧ _) = RR
        have HR := hid hR
        have HXX := hid hx
        clear hR g1 g2 hx
        have hn0 : ¬ (n : Int) = 0 := by omega
        simp only [putsFrom, Act.put, qA, qB, qC, Nat.zero_add, Nat.reduceAdd, List.getD_cons_zero, List.getD_cons_succ]
        go_wp2_with fail
        have hR := HR.out
        subst hR
        exact ⟨rfl, fun _ => rfl, HXX.out⟩
       all_goals
        intro jj X g1 g2 hx
        have hj : jj = 0 := Nat.le_zero.1 (Nat.le_trans g2 (by decide +kernel))
        have hX0 : X = Y0 := by rw [hx, hj]; rfl
        have k2 : X.cell? ⟨p, 2, none⟩ = some (.slice c.ma n c.mc) := by rw [hX0]; exact Y2.out
        have k3 : X.cell? ⟨p, 3, none⟩ = some (.int .i64 (t : Nat)) := by rw [hX0]; exact Y3'.out
        generalize hR : (fun v w' => (_ → v = _) ∧ _) = RR
        have HR := hid hR
        have HXX := hid hx
        clear hR g1 g2 hx hj hX0
        try simp only [putsFrom, Act.put, qA, qB, qC, Nat.zero_add, Nat.reduceAdd, List.getD_cons_zero, List.getD_cons_succ]
        go_wp2_with fail
        have hR := HR.out
        subst hR
        exact ⟨rfl, fun _ => rfl, HXX.out⟩
      ·intro X hx
       obtain rfl : X = Y1 := hx
       simp only [putsFrom, Act.put, qA, qB, qC, Nat.zero_add, Nat.reduceAdd, List.getD_cons_zero, List.getD_cons_succ]
       go_wp2_with fail
       exact bodyPost_ret (v := .tuple #[]) (by simp [results, Tryz.results17, go_sem]) rfl ⟨rfl, HBEL.out, _, HFIN.out, HCD.out.symm, rfl⟩
      ·exact fun _ _ _ _ hx => hx.elim
     ·clear hi
      have hnt := next_mod HC1.out.tgt
      obtain ⟨hm1, hm2⟩ := hnt
      obtain ⟨Y0, hY0⟩ : ∃ Y : World, Y = { w1 with drawn := w1.drawn + 1 } := ⟨_, rfl⟩
      have hb0 : Below w1.heap.size w1 Y0 := by rw [hY0]; exact Below.drew (Below.refl _ w1)
      have HCY := hid (HC1.out.below hb0)
      obtain ⟨hfin, hgr⟩ := HCY.out.setT (t := (c.t + 1) % c.ms.length) (Nat.mod_lt _ (by have := HC1.out.tgt; omega))
      have z0 : Y0.heap.size = w1.heap.size := by rw [hY0]
      have HFIN := hid hfin
      have HBEL := hid (And.intro ((hA.mono hBw).trans ((hb0.mono (by omega)).trans (grown_below' hgr hBp (by omega)))) ((FrC.of_below hA).trans ((FrC.of_below hb0).trans (FrC.of_grown hgr (box_ok HCY.out.box)))))
      have HCD : Hid (D = CL.d { c with t := (c.t + 1) % c.ms.length }) := hid HD.out
      have ht7 : c.t < c.ms.length := HC1.out.tgt
      have hr7 : c.ms.length ≤ 7 := HC1.out.ring.1
      obtain ⟨y0, y1, y2, y3, y4, y5⟩ := HCY.out.cells
      have yf : Y0.frozen? ⟨p, 3, none⟩ = false := by simp [World.frozen?, HCY.out.box]
      have HY0 := hid hY0; have Y2 := hid y2; have Y3' := hid y3; have YF := hid yf
      generalize (c.t + 1) % c.ms.length = nt at *
      obtain ⟨Y1, hY1⟩ : ∃ Y : World, Y = Y0.setCell ⟨p, 3, none⟩ (.int .i64 nt) := ⟨_, rfl⟩
      rw [← hY1] at HFIN HBEL
      have HY1 := hid hY1
      have HM1 := hid hm1; have HM2 := hid hm2
      clear hY0 hb0 hfin hgr z0 y0 y1 y2 y3 y4 y5 yf hY1 b2 b3 b4 b5 q0 q1 hq hm1 hm2
      generalize c.t = t at *
      generalize c.ms.length = n at *
      go_upto_region 10 with fail
      refine wp_region_chain (fun q => [Value.pointer (some ⟨p, 0, none⟩), .pointer (some ⟨p, 0, none⟩), .pointer (some ⟨p, 0, none⟩), .pointer (some ⟨p, 3, none⟩), .int .i64 (t : Nat), .int .i64 ((t : Int) + 1), .pointer (some ⟨p, 0, none⟩), .pointer (some ⟨p, 0, none⟩), .pointer (some ⟨p, 2, none⟩), .slice c.ma n c.mc, .int .i64 (n : Nat), .int .i64 (nt : Nat), .pointer (some ⟨p, 0, none⟩), .pointer (some ⟨p, 3, none⟩)].getD q undef) (fun q X => X = [Y0, Y1].getD q Y0) (fun _ _ => False) [14] rfl (by kernel_rfl) (by kernel_rfl) (by decide) (by decide) HY0.out.symm ?_ ?_ ?_
      ·simp only [StepsC, List.nil_append, List.cons_append]
       refine ⟨?zp0, ?zp1, ?zp2, ?zp3, ?zl4, ?zp5, ?zp6, ?zp7, ?zp8, ?zl9, ?zp10, ?zm, ?zp12, ?zp13, ?zst, trivial⟩
       case zst =>
        intro jj X g1 g2 hx
        obtain rfl : jj = 0 := Nat.le_zero.1 (Nat.le_trans g2 (by decide +kernel))
        obtain rfl : X = Y0 := hx
        have k3 := Y3'.out; have f3 := YF.out
        generalize hR : (fun v w' => (_ → v = _) ∧ _) = RR
        have HR := hid hR
        clear hR g1 g2
        simp only [putsFrom, Act.put, qA, qB, qC, Nat.zero_add, Nat.reduceAdd, List.getD_cons_zero, List.getD_cons_succ]
        go_wp2_with fail
        have hR := HR.out
        subst hR
        exact ⟨rfl, fun h => absurd rfl h, HY1.out.symm⟩
       case zm =>
        intro jj X g1 g2 hx
        have hm1 := HM1.out; have hm2 := HM2.out
        generalize hR : (fun v w' => (_ → v = _) ∧ _) = RR
        have HR := hid hR
        have HXX := hid hx
        clear hR g1 g2 hx
        have hn0 : ¬ (n : Int) = 0 := by omega
        simp only [putsFrom, Act.put, qA, qB, qC, Nat.zero_add, Nat.reduceAdd, List.getD_cons_zero, List.getD_cons_succ]
        go_wp2_with fail
        have hR := HR.out
        subst hR
        exact ⟨rfl, fun _ => rfl, HXX.out⟩
       all_goals
        intro jj X g1 g2 hx
        have hj : jj = 0 := Nat.le_zero.1 (Nat.le_trans g2 (by decide +kernel))
        have hX0 : X = Y0 := by rw [hx, hj]; rfl
        have k2 : X.cell? ⟨p, 2, none⟩ = some (.slice c.ma n c.mc) := by rw [hX0]; exact Y2.out
        have k3 : X.cell? ⟨p, 3, none⟩ = some (.int .i64 (t : Nat)) := by rw [hX0]; exact Y3'.out
        generalize hR : (fun v w' => (_ → v = _) ∧ _) = RR
        have HR := hid hR
        have HXX := hid hx
        clear hR g1 g2 hx hj hX0
        try simp only [putsFrom, Act.put, qA, qB, qC, Nat.zero_add, Nat.reduceAdd, List.getD_cons_zero, List.getD_cons_succ]
        go_wp2_with fail
        have hR := HR.out
        subst hR
        exact ⟨rfl, fun _ => rfl, HXX.out⟩
      ·intro X hx
       obtain rfl : X = Y1 := hx
       simp only [putsFrom, Act.put, qA, qB, qC, Nat.zero_add, Nat.reduceAdd, List.getD_cons_zero, List.getD_cons_succ]
       go_wp2_with fail
       exact bodyPost_ret (v := .tuple #[]) (by simp [results, Tryz.results17, go_sem]) rfl ⟨rfl, HBEL.out, _, HFIN.out, HCD.out.symm, rfl⟩
      ·exact fun _ _ _ _ hx => hx.elim
end Go.Proofs.YtekmadgacepdfaaGreat.U
