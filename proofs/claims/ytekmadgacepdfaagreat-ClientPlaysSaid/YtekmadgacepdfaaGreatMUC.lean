/- Several texts as one: UC UL UM. -/
import Derived.Test.YtekmadgacepdfaaGreatMKH
import Derived.Test.YtekmadgacepdfaaGreatMPE
import Derived.Test.YtekmadgacepdfaaGreatMUI
namespace Go.Proofs.YtekmadgacepdfaaGreat.U
set_option linter.unusedVariables false
open Go.RowKit Fl
set_option linter.unusedSimpArgs false
open Go.Proofs.YtekmadgacepdfaaGreat.P (SameD encO EncRet encode_any encO_len encO_byte bCells)
open Go.Proofs.YtekmadgacepdfaaGreat.K (canC Fits CanRet fsort)

def normU (x : SubV) : SubV := K.outV x none none none 0 0 0
def CanonU (x : SubV) (w : World) (e : Ending) (w' : World) : Prop := ∃ y : SubV, e = .returned (.tuple #[.agg #[.int .i64 y.s0, .int .i64 y.s1, .int .i64 y.s2, .slice y.ra y.rs.length y.rc, .slice y.sa y.ss.length y.sc, .slice y.wa y.ws.length y.wc], .int .i64 (canC x)]) ∧ y.At w' ∧ Below w.heap.size w w' ∧ (canC x = 0 → SameD y (normU x))
theorem no_at (w : World) : SubV.At ⟨0, 0, 0, none, 0, [], none, 0, [], none, 0, []⟩ w :=
 ⟨⟨.inl rfl, fun i hi => absurd hi (Nat.not_lt_zero _), Nat.zero_le _⟩, ⟨.inl rfl, fun i hi => absurd hi (Nat.not_lt_zero _), Nat.zero_le _⟩, ⟨.inl rfl, fun i hi => absurd hi (Nat.not_lt_zero _), Nat.zero_le _⟩⟩
theorem canRet_u {x : SubV} {w w' : World} {e : Ending} (hf : Fits x) (h : CanRet w x.s0 x.s1 x.s2 (K.bits (fsort x.rs)) (K.bits (fsort x.ws)) (refAllN [] (N.forms x.ss)) (canC x) e w') : CanonU x w e w' := by
 obtain ⟨hb, h⟩ := h
 rcases h with ⟨h0, v1, v2, v3, he, h1, h2, h3⟩ | ⟨h0, he⟩
 ·obtain ⟨⟨a1, d1, rfl⟩, _⟩ := id h1
  obtain ⟨⟨a2, d2, rfl⟩, _⟩ := id h2
  obtain ⟨⟨a3, d3, rfl⟩, _⟩ := id h3
  refine ⟨K.outV x a1 a2 a3 d1 d2 d3, ?_, K.out_at hf h1 h2 h3, hb, fun _ => ⟨rfl, rfl, rfl, rfl, rfl, rfl⟩⟩
  rw [he, h0]
  unfold K.outV
  simp only [List.length_map]
 ·exact ⟨⟨0, 0, 0, none, 0, [], none, 0, [], none, 0, []⟩, he, no_at w', hb, fun hc => absurd hc h0⟩
theorem canon_u (x : SubV) (w : World) (h : x.At w) (hf : Fits x) :
  Calls Tryz.prog 42 #[.agg #[.int .i64 x.s0, .int .i64 x.s1, .int .i64 x.s2, .slice x.ra x.rs.length x.rc, .slice x.sa x.ss.length x.sc, .slice x.wa x.ws.length x.wc]] w (CanonU x w) :=
 (K.canon_any x w h hf).mono fun _ _ h3 => canRet_u hf h3
theorem refCanon_u (x : SubV) (w : World) (h : x.At w) (hf : Fits x) :
  Calls Tryz.prog 44 #[.agg #[.int .i64 x.s0, .int .i64 x.s1, .int .i64 x.s2, .slice x.ra x.rs.length x.rc, .slice x.sa x.ss.length x.sc, .slice x.wa x.ws.length x.wc]] w (CanonU x w) :=
 (K.refCanon_any x w h hf).mono fun _ _ h3 => canRet_u hf h3
def bytesU (x : SubV) : List Nat := encO (normU x)
theorem norm_chk (x : SubV) (h : canC x = 0) : K.SubV.check (normU x) = 0 := by
 have e : K.SubV.check (normU x) = K.outChk x := K.check_out x none none none 0 0 0
 rw [e]
 unfold canC at h
 revert h
 generalize x.ss.any K.wrongS = wr
 have := K.outChk_is x
 generalize K.outChk x = o at *
 unfold K.canI
 rcases this with rfl | rfl | rfl | rfl <;> cases wr <;> decide
theorem sameD_enc {x y : SubV} (h : SameD x y) : encO x = encO y := by
 unfold encO
 rw [h.check]
 have e : P.valsOf x = P.valsOf y := by
  unfold P.valsOf P.encNums
  rw [h.s0, h.s1, h.s2, h.rs, h.ss, h.ws]
 rw [e]
theorem normU_len (x : SubV) : (bytesU x).length ≤ 10000 := by
 unfold bytesU P.encO
 by_cases hc : K.SubV.check (normU x) = 0
 ·rw [if_pos hc]
  obtain ⟨⟨⟨a1, a2⟩, ⟨b1, b2⟩, ⟨c1, c2⟩, ⟨l1, _⟩, ⟨l2, _⟩, ⟨l3, _⟩⟩, _⟩ := P.right_D hc
  have h1 : ∀ v ∈ P.valsOf (normU x), (P.PV.bytes v).length ≤ 10 := by
   intro v hv
   unfold P.valsOf P.encNums P.encS at hv
   simp only [List.mem_append, List.mem_map, List.mem_flatMap, List.mem_cons, List.not_mem_nil, or_false] at hv
   simp only [P.toD, List.length_map] at a1 a2 b1 b2 c1 c2 l1 l2 l3
   have nk : ∀ k, (P.PV.bytes (.key k)).length ≤ 10 := fun k => by unfold P.PV.bytes; rw [P.keyB_len]; omega
   have nn : ∀ k, P.NumD k → (P.PV.bytes (.num k)).length ≤ 10 := fun k hk => P.numB_len hk
   rcases hv with ((((⟨n, hn, rfl⟩ | ⟨k, _, rfl⟩) | rfl) | ⟨s, _, rfl | rfl⟩) | rfl) | ⟨k, _, rfl⟩
   ·rcases hn with rfl | rfl | rfl | rfl
    ·exact nn _ ⟨a1, a2⟩
    ·exact nn _ ⟨b1, b2⟩
    ·exact nn _ ⟨c1, c2⟩
    ·exact nn _ ⟨by omega, by omega⟩
   ·exact nk _
   ·exact nn _ ⟨by omega, by omega⟩
   ·exact nk _
   ·exact nk _
   ·exact nn _ ⟨by omega, by omega⟩
   ·exact nk _
  have h2 : ∀ l : List P.PV, (∀ v ∈ l, (P.PV.bytes v).length ≤ 10) → (P.packB l).length ≤ 10 * l.length := by
   intro l
   induction l with
   | nil => intro _; simp [P.packB]
   | cons v l ih =>
    intro hl
    have := ih fun v hv => hl v (List.mem_cons_of_mem _ hv)
    have := hl v (List.mem_cons_self ..)
    unfold P.packB at *
    rw [List.flatMap_cons, List.length_append, List.length_cons]; omega
  have h3 := h2 _ h1
  have h4 : (P.valsOf (normU x)).length ≤ 1000 := by
   simp only [P.toD, List.length_map] at l1 l2 l3
   unfold P.valsOf
   simp [P.encNums, P.encS_len]; omega
  omega
 ·rw [if_neg hc]; simp
end Go.Proofs.YtekmadgacepdfaaGreat.U
namespace Go.Proofs.YtekmadgacepdfaaGreat.U
set_option linter.unusedVariables false
open Go.RowKit Fl Go.Maps
open Go.Proofs.YtekmadgacepdfaaGreat.P (bCells encO EncRet encode_any SameD box6)
open Go.Proofs.YtekmadgacepdfaaGreat.K (canC Fits)
set_option linter.unusedSimpArgs false

def fullD (d : CD) : Bool := match d.os with
 | [] => false
 | o :: _ => decide (8 ≤ d.last + 1 - o.1)
def subD (d : CD) (x : SubV) : SubV := { x with s0 := d.ses, s1 := d.last + 1 }
def addD (d : CD) (x : SubV) : CD × Int × Int :=
 if fullD d = true then (d, 0, 3) else
 if canC (subD d x) = 0 then ({ d with last := d.last + 1, os := d.os ++ [(d.last + 1, bytesU (subD d x))] }, d.last + 1, 0) else (d, 0, canC (subD d x))
def AddRet (B p : Nat) (r : CD × Int × Int) (ma : Option Addr) (w : World) (e : Ending) (w' : World) : Prop := e = .returned (.tuple #[.int .i64 r.2.1, .int .i64 r.2.2]) ∧ (Below B w w' ∧ FrC w w') ∧ ∃ c, CAt B p c w' ∧ c.d = r.1 ∧ c.ma = ma
theorem checkI_num {x : SubV} (h : K.SubV.check x = 0) : 1 ≤ x.s1 ∧ x.s1 ≤ 1099511627776 := by
 have := K.nb_true (P.check0 h).1
 omega
theorem CAt.added {B p : Nat} {c : CL} {w6 w8 : World} {o : OItem} (h : CAt B p c w6) (hs : o.seq = c.last + 1) (hmx : c.last + 1 ≤ 1099511627776) (ho : w6.ownsRow B 5 1 o.val o.bs.length (bCells o.bs)) (hb : o.bs.length ≤ 10000 ∧ ∀ x ∈ o.bs, x < 256)
  (ht : w6.mapTurned w8 c.mb) (hm : w8.ownsMap (H := Value) Tryz.prog 2 heldR c.mb (c.last.toNat + 1) ((datOf c.os).put (.int .i64 o.seq) (.held o.val))) (hB : B ≤ w6.heap.size) :
  CAt B p { c with last := c.last + 1, os := c.os ++ [o] } (w8.setCell ⟨p, 1, none⟩ (.int .i64 (c.last + 1))) ∧ (Below B w6 (w8.setCell ⟨p, 1, none⟩ (.int .i64 (c.last + 1))) ∧ FrC w6 (w8.setCell ⟨p, 1, none⟩ (.int .i64 (c.last + 1)))) ∧ w8.cell? ⟨p, 1, none⟩ = some (.int .i64 c.last) ∧ w8.frozen? ⟨p, 1, none⟩ = false := by
 have hl := h.last
 have hlt : ∀ x ∈ c.os, x.seq < o.seq := fun x hx => by have := (h.num x hx).2; omega
 rw [dat_put c.os o hlt] at hm
 have hg := ht.grown
 have hq : ∀ T cur, w6.heap[c.mb]? ≠ some (.cells cur T (0, 0)) := fun T cur he => by
  obtain ⟨es, clock, hb, _⟩ := h.map
  rw [hb] at he; cases he
 have hbox : w8.heap[p]? = some (.cells c.cells 90 (0, 0)) := (hg.block p h.lt fun he => by
  have he := Option.some.inj he
  exact hq _ _ (he ▸ h.box)).trans h.box
 obtain ⟨h1, h2⟩ := K.set1 (i := 1) hbox (.int .i64 (c.last + 1))
 have hne : ∀ T, T ≠ 90 → ∀ cur, w8.heap[p]? ≠ some (.cells cur T (0, 0)) := fun T hT cur he => by
  rw [hbox] at he
  simp only [Option.some.injEq, Obj.cells.injEq] at he
  exact hT he.2.1.symm
 have hnn : (c.last + 1).toNat = c.last.toNat + 1 := by omega
 refine ⟨⟨h1, h.hp, stay_of (stay_of h.mem hg (hq _)) h2 (hne _ (by decide)), ?_, h.hm, fun x hx => ?_, fun x hx => ?_, rising_snoc h.rise hlt, fun x hx => ?_, ⟨by show 0 ≤ c.last + 1; omega, hmx⟩, stay_of (stay_of h.res hg (hq _)) h2 (hne _ (by decide)), ?_, h.tgt, h.ring, h.ses⟩, ?_, ?_, ?_⟩
 ·show (w8.setCell ⟨p, 1, none⟩ (.int .i64 (c.last + 1))).ownsMap _ _ _ c.mb (c.last + 1).toNat (datOf (c.os ++ [o]))
  rw [hnn]
  refine map_stay hm (h2.block _ hm.lt fun he => ?_)
  have he := Option.some.inj he
  obtain ⟨es, clock, hb, _⟩ := hm
  rw [he, hbox] at hb
  cases hb
 ·rcases List.mem_append.1 hx with hx | hx
  ·exact stay_of (stay_of (h.item x hx) hg (hq _)) h2 (hne _ (by decide))
  ·rw [List.mem_singleton.1 hx]
   exact stay_of (stay_of ho hg (hq _)) h2 (hne _ (by decide))
 ·rcases List.mem_append.1 hx with hx | hx
  ·exact h.byte x hx
  ·rw [List.mem_singleton.1 hx]; exact hb
 ·rcases List.mem_append.1 hx with hx | hx
  ·have := h.num x hx
   exact ⟨this.1, by show x.seq ≤ c.last + 1; omega⟩
  ·rw [List.mem_singleton.1 hx]
   exact ⟨by omega, by show o.seq ≤ c.last + 1; omega⟩
 ·show c.rs.length + (c.os ++ [o]).length = (c.last + 1).toNat
  rw [hnn, List.length_append]
  have := h.many
  simp; omega
 ·exact ⟨(grown_below' hg h.hm hB).trans (grown_below' h2 h.hp (by have := hg.size; omega)), (FrC.of_grown hg (map_ok ht)).trans (FrC.of_grown h2 (box_ok hbox))⟩
 ·rw [cell_of_row w8 p 1 _ _ (0, 0) hbox]; rfl
 ·simp [World.frozen?, hbox]
end Go.Proofs.YtekmadgacepdfaaGreat.U
namespace Go.Proofs.YtekmadgacepdfaaGreat.U
set_option linter.unusedVariables false
open Go.RowKit Fl Go.Maps
open Go.Proofs.YtekmadgacepdfaaGreat.P (bCells encO EncRet encode_any SameD box6)
open Go.Proofs.YtekmadgacepdfaaGreat.K (canC Fits)
set_option linter.unusedSimpArgs false

set_option maxHeartbeats 4000000 in
set_option maxRecDepth 100000 in
theorem add_any (B p : Nat) (c : CL) (x : SubV) (w : World) (h : CAt B p c w) (hx : x.At w) (hf : Fits x) :
  Calls Tryz.prog 15 #[.pointer (some ⟨p, 0, none⟩), .agg #[.int .i64 x.s0, .int .i64 x.s1, .int .i64 x.s2, .slice x.ra x.rs.length x.rc, .slice x.sa x.ss.length x.sc, .slice x.wa x.ws.length x.wc]] w (AddRet B p (addD c.d x) c.ma w) := by
 have HC := hid h; have HX := hid hx; have HF : Hid (Fits (subD c.d x)) := hid hf
 obtain ⟨R, hR⟩ : ∃ R, R = addD c.d x := ⟨_, rfl⟩
 rw [← hR]
 have HR := hid hR
 unfold addD at HR
 have hp := h.lt
 have hBp := h.hp
 have hlast := h.last
 have hBw : B ≤ w.heap.size := by omega
 clear h hx hf hR
 go_enter Tryz.func15, Tryz.ntmps15
 go_upto_region 1 with fail
 generalize hW1 : World.alloc _ _ = w1 at *
 have hA : Below w.heap.size w w1 := by rw [← hW1]; (repeat (first | with_reducible exact Below.refl _ _ | ((with_reducible refine Below.alloc1 ?_ ?_ _); (· first | omega | (simp; done) | (simp; omega))) | (with_reducible refine Below.drew ?_) | (with_reducible refine below_drewN' ?_ _) | ((with_reducible refine Below.setCell1 ?_ ?_ _); (· first | omega | (simp; done) | (simp; omega))) | ((with_reducible refine Below.after (by assumption) ?_ ?_); (· first | omega | (simp; done) | (simp; omega)))))
 have hz1 : w.heap.size < w1.heap.size := by rw [← hW1]; simp
 have q1 : w1.heap[w.heap.size]? = some (.cells #[.int .i64 x.s0, .int .i64 x.s1, .int .i64 x.s2, .slice x.ra x.rs.length x.rc, .slice x.sa x.ss.length x.sc, .slice x.wa x.ws.length x.wc] 35 (0, 0)) := by rw [← hW1]; simpa using heap_alloc_new w _
 clear hW1
 obtain ⟨b0, b1, b2, b3, b4, b5⟩ := (HC.out.below hA).cells
 have HO := hid (open_any B p c w1 (HC.out.below hA))
 go_upto_region 2 with fail
 clear b0 b1 b2 b3 b4 b5
 go_wp2_with fail
 refine HO.out.mono ?_
 rintro e w2 ⟨a2, c2, rfl, ho2, hb2⟩
 clear HO
 rcases (show c.os = [] ∨ ∃ o os, c.os = o :: os from by cases c.os <;> simp) with hos | ⟨o, os, hos⟩
 ·have hfull : fullD c.d = false := by unfold fullD CL.d; simp only; rw [hos]; rfl
  rw [if_neg (by rw [hfull]; decide)] at HR
  rw [hos]
  clear ho2 hfull hos
  simp only [List.map_nil, List.length_nil]
  go_upto_region 5 with fail
  have hq2 := (hb2.block _ hz1).trans q1
  have h02 := hA.trans (hb2.mono (Nat.le_of_lt hz1))
  obtain ⟨b0, b1, b2, b3, b4, b5⟩ := (HC.out.below h02).cells
  obtain ⟨x0, x1, x2, x3, x4, x5⟩ := box6 hq2
  have xf : ∀ j, w2.frozen? ⟨w.heap.size, j, none⟩ = false := fun j => by simp [World.frozen?, hq2]
  obtain ⟨s1, g1⟩ := K.set1 (i := 0) hq2 (.int .i64 c.ses)
  obtain ⟨s2, g2⟩ := K.set1 (i := 1) s1 (.int .i64 (c.last + 1))
  have hq3 : ((w2.setCell ⟨w.heap.size, 0, none⟩ (.int .i64 c.ses)).setCell ⟨w.heap.size, 1, none⟩ (.int .i64 (c.last + 1))).heap[w.heap.size]? = some (.cells #[.int .i64 c.ses, .int .i64 (c.last + 1), .int .i64 x.s2, .slice x.ra x.rs.length x.rc, .slice x.sa x.ss.length x.sc, .slice x.wa x.ws.length x.wc] 35 (0, 0)) := s2
  have h03 : Below w.heap.size w ((w2.setCell ⟨w.heap.size, 0, none⟩ (.int .i64 c.ses)).setCell ⟨w.heap.size, 1, none⟩ (.int .i64 (c.last + 1))) := h02.trans (grown_below' (g1.trans g2) (Nat.le_refl _) h02.size)
  have H03 := hid h03; have Q3 := hid hq3
  clear s1 s2 g1 g2 hq3 h03 hq2 b1 b2 b3 b4 b5 h02 hb2
  go_upto_region 6 with fail
  generalize ((w2.setCell ⟨w.heap.size, 0, none⟩ (.int .i64 c.ses)).setCell ⟨w.heap.size, 1, none⟩ (.int .i64 (c.last + 1))) = w3 at *
  clear x0 x1 x2 x3 x4 x5 xf b0
  obtain ⟨x0, x1, x2, x3, x4, x5⟩ := box6 Q3.out
  have CAN := hid (canon_u (subD c.d x) w3 ⟨(HX.out.below H03.out).r, (HX.out.below H03.out).s, (HX.out.below H03.out).w⟩ HF.out)
  go_wp2_with fail
  refine CAN.out.mono ?_
  rintro e w4 ⟨y, rfl, hy, hb4, hn⟩
  have hz4 := hb4.size
  have h04 := H03.out.trans (hb4.mono H03.out.size)
  have HY := hid hy; have HN := hid hn
  clear x0 x1 x2 x3 x4 x5 CAN hy hn
  generalize hcc : canC (subD c.d x) = cc at *
  by_cases hc0 : cc = 0
  ·subst hc0
   rw [if_pos rfl] at HR
   have hsame := HN.out rfl
   have henc : encO y = bytesU (subD c.d x) := sameD_enc hsame
   have hchk : K.SubV.check y = 0 := by rw [hsame.check]; exact norm_chk _ hcc
   have hnum := (checkI_num hchk).2
   have hs1 : y.s1 = c.last + 1 := hsame.s1
   rw [hs1] at hnum
   have hby : (bytesU (subD c.d x)).length ≤ 10000 ∧ ∀ z ∈ bytesU (subD c.d x), z < 256 := ⟨normU_len _, P.encO_byte _⟩
   have HBY := hid hby
   generalize bytesU (subD c.d x) = E at *
   have HENC := hid henc; have HCHK := hid hchk
   clear hsame henc hchk hs1 hcc HN hby
   go_upto_region 9 with fail
   generalize hW5 : World.alloc _ _ = w5
   have hb5 : Below w4.heap.size w4 w5 := by rw [← hW5]; (repeat (first | with_reducible exact Below.refl _ _ | ((with_reducible refine Below.alloc1 ?_ ?_ _); (· first | omega | (simp; done) | (simp; omega))) | (with_reducible refine Below.drew ?_) | (with_reducible refine below_drewN' ?_ _) | ((with_reducible refine Below.setCell1 ?_ ?_ _); (· first | omega | (simp; done) | (simp; omega))) | ((with_reducible refine Below.after (by assumption) ?_ ?_); (· first | omega | (simp; done) | (simp; omega)))))
   have hz5 : w4.heap.size < w5.heap.size := by rw [← hW5]; simp
   have q5 : w5.heap[w4.heap.size]? = some (.cells #[.int .i64 y.s0, .int .i64 y.s1, .int .i64 y.s2, .slice y.ra y.rs.length y.rc, .slice y.sa y.ss.length y.sc, .slice y.wa y.ws.length y.wc] 35 (0, 0)) := by rw [← hW5]; simpa using heap_alloc_new w4 _
   have h05 := h04.trans (hb5.mono h04.size)
   obtain ⟨x0, x1, x2, x3, x4, x5⟩ := box6 q5
   have EN := encode_any y w5 (HY.out.below hb5)
   unfold EncRet at EN
   rw [HENC.out, HCHK.out] at EN
   have EN := hid EN
   clear hW5 q5 hb5
   go_wp2_with fail
   refine EN.out.mono ?_
   rintro e w6 ⟨a6, c6, rfl, ho6, hb6⟩
   have h06 := h05.trans (hb6.mono h05.size)
   have HC6 := HC.out.below h06
   have hz6 := h06.size
   obtain ⟨st, w7, w8, hent, hsto, hown8, hturn, hturn7⟩ := newEntry HC6.map mapKeyed Tryz.underlying88 (by have := HC6.last; unfold maxLen; omega) (key := .int .i64 (c.last + 1)) (val := .slice a6 E.length c6) (keyOf_int_mk Tryz.underlying2 (lit_wf ⟨by have := HC6.last; omega, by have := HC6.last; omega⟩)) rfl (fun u => Tryz.zeroValue47 u) (zd := .held (.slice none 0 0)) (zp := []) rfl (by
    rw [dat_has, List.any_eq_false]
    intro o ho
    have := (HC6.num o ho).2
    simp; omega)
   have hadd := HC6.added (o := ⟨c.last + 1, a6, c6, E⟩) rfl hnum (K.own_le ho6 (by have := h05.size; omega)) HBY.out hturn hown8 (by omega)
   obtain ⟨hfin, hbel, k1, f1⟩ := hadd
   have hcell7 : w7.heap[p]? = w6.heap[p]? := hturn7.grown.block p HC6.lt fun he => by
    have he := Option.some.inj he
    obtain ⟨es, clock, hb, _⟩ := HC6.map
    have := HC6.box
    rw [he, hb] at this
    cases this
   obtain ⟨b0, b1, b2, b3, b4, b5⟩ := HC6.cells
   have HFIN := hid hfin
   have HBEL := hid (And.intro ((h06.mono hBw).trans hbel.1) ((FrC.of_below h06).trans hbel.2))
   have HDD : Hid ((CL.d { c with last := c.last + 1, os := c.os ++ [⟨c.last + 1, a6, c6, E⟩] }) = R.1) := hid (by
    rw [HR.out]
    unfold CL.d
    simp only [List.map_append, List.map_cons, List.map_nil])
   have HR2 : Hid (R.2.1 = c.last + 1) := hid (by rw [HR.out]; rfl)
   have HR3 : Hid (R.2.2 = 0) := hid (by rw [HR.out])
   have hlast := HC6.last
   simp only [goInt] at hent hsto
   clear hfin hbel hown8 hturn hturn7 hcell7 ho6 b0 b2 b3 b5 x0 x1 x2 x3 x4 x5 EN HC6 h04 h05
   generalize E.length = m6 at *
   go_wp2_with fail
   exact bodyPost_ret (v := .tuple #[.int .i64 (c.last + 1), .int .i64 0]) (by simp [results, Tryz.results15, go_sem]) rfl ⟨by rw [HR2.out, HR3.out], HBEL.out, _, HFIN.out, HDD.out, rfl⟩
  ·rw [if_neg hc0] at HR
   have hcb : (cc != 0) = true := by simpa using hc0
   have HR1 : Hid (c.d = R.1) := hid (by rw [HR.out])
   have HR2 : Hid (R.2.1 = 0) := hid (by rw [HR.out])
   have HR3 : Hid (R.2.2 = cc) := hid (by rw [HR.out])
   go_wp2_with fail
   have hfin : ∀ W, Below w4.heap.size w4 W → AddRet B p R c.ma w (.returned (.tuple #[.int .i64 0, .int .i64 cc])) W := fun W hb => ⟨by rw [HR2.out, HR3.out], ⟨(h04.trans (hb.mono h04.size)).mono hBw, FrC.of_below (h04.trans (hb.mono h04.size))⟩, c, HC.out.below (h04.trans (hb.mono h04.size)), HR1.out, rfl⟩
   exact bodyPost_ret (v := .tuple #[.int .i64 0, .int .i64 cc]) (by simp [results, Tryz.results15, go_sem]) rfl (hfin _ (by (repeat (first | with_reducible exact Below.refl _ _ | ((with_reducible refine Below.alloc1 ?_ ?_ _); (· first | omega | (simp; done) | (simp; omega))) | (with_reducible refine Below.drew ?_) | (with_reducible refine below_drewN' ?_ _) | ((with_reducible refine Below.setCell1 ?_ ?_ _); (· first | omega | (simp; done) | (simp; omega))) | ((with_reducible refine Below.after (by assumption) ?_ ?_); (· first | omega | (simp; done) | (simp; omega)))))))
 ·have hn0 : (c.os.map OItem.seq).length = os.length + 1 := by rw [hos]; simp
  have hsq : (c.os.map OItem.seq)[0]? = some o.seq := by rw [hos]; rfl
  have hnum := HC.out.num o (by rw [hos]; exact List.mem_cons_self ..)
  have hfd : fullD c.d = decide (8 ≤ c.last + 1 - o.seq) := by unfold fullD CL.d; simp only; rw [hos]; rfl
  have hk0 : ∃ g, a2 = some ⟨g, 0, none⟩ ∧ w2.cell? ⟨g, 0, none⟩ = some (.int .i64 o.seq) := by
   rcases ho2.2 with ⟨h1, h2⟩ | ⟨g, cap, cur, h1, _, hg, _⟩
   ·omega
   ·injection h1 with ha _ _
    subst ha
    refine ⟨g, rfl, ?_⟩
    have := ho2.cells (g := g) rfl 0 (.int .i64 o.seq) (by unfold zCells; rw [List.getElem?_map, hsq]; rfl)
    rwa [K.addr0] at this
  obtain ⟨g, rfl, k0⟩ := hk0
  generalize (c.os.map OItem.seq).length = n at *
  have hnp : 0 < (n : Int) := by omega
  have hnn : 0 < n := by omega
  clear ho2 hn0 hsq hos
  by_cases h8 : 8 ≤ c.last + 1 - o.seq
  ·rw [if_pos (by rw [hfd]; simpa using h8)] at HR
   have HR1 : Hid (c.d = R.1) := hid (by rw [HR.out])
   have HR2 : Hid (R.2.1 = 0) := hid (by rw [HR.out])
   have HR3 : Hid (R.2.2 = 3) := hid (by rw [HR.out])
   have h02 := hA.trans (hb2.mono (Nat.le_of_lt hz1))
   clear hfd q1
   go_wp2_with fail
   exact bodyPost_ret (v := .tuple #[.int .i64 0, .int .i64 3]) (by simp [results, Tryz.results15, go_sem]) rfl ⟨by rw [HR2.out, HR3.out], ⟨h02.mono hBw, FrC.of_below h02⟩, c, HC.out.below h02, HR1.out, rfl⟩
  ·rw [if_neg (by rw [hfd]; simpa using h8)] at HR
   clear hfd
   go_upto_region 5 with fail
   have hq2 := (hb2.block _ hz1).trans q1
   have h02 := hA.trans (hb2.mono (Nat.le_of_lt hz1))
   obtain ⟨b0, b1, b2, b3, b4, b5⟩ := (HC.out.below h02).cells
   obtain ⟨x0, x1, x2, x3, x4, x5⟩ := box6 hq2
   have xf : ∀ j, w2.frozen? ⟨w.heap.size, j, none⟩ = false := fun j => by simp [World.frozen?, hq2]
   obtain ⟨s1, g1⟩ := K.set1 (i := 0) hq2 (.int .i64 c.ses)
   obtain ⟨s2, g2⟩ := K.set1 (i := 1) s1 (.int .i64 (c.last + 1))
   have hq3 : ((w2.setCell ⟨w.heap.size, 0, none⟩ (.int .i64 c.ses)).setCell ⟨w.heap.size, 1, none⟩ (.int .i64 (c.last + 1))).heap[w.heap.size]? = some (.cells #[.int .i64 c.ses, .int .i64 (c.last + 1), .int .i64 x.s2, .slice x.ra x.rs.length x.rc, .slice x.sa x.ss.length x.sc, .slice x.wa x.ws.length x.wc] 35 (0, 0)) := s2
   have h03 : Below w.heap.size w ((w2.setCell ⟨w.heap.size, 0, none⟩ (.int .i64 c.ses)).setCell ⟨w.heap.size, 1, none⟩ (.int .i64 (c.last + 1))) := h02.trans (grown_below' (g1.trans g2) (Nat.le_refl _) h02.size)
   have H03 := hid h03; have Q3 := hid hq3
   clear s1 s2 g1 g2 hq3 h03 hq2 b1 b2 b3 b4 b5 h02 hb2
   go_upto_region 6 with fail
   generalize ((w2.setCell ⟨w.heap.size, 0, none⟩ (.int .i64 c.ses)).setCell ⟨w.heap.size, 1, none⟩ (.int .i64 (c.last + 1))) = w3 at *
   clear x0 x1 x2 x3 x4 x5 xf b0
   obtain ⟨x0, x1, x2, x3, x4, x5⟩ := box6 Q3.out
   have CAN := hid (canon_u (subD c.d x) w3 ⟨(HX.out.below H03.out).r, (HX.out.below H03.out).s, (HX.out.below H03.out).w⟩ HF.out)
   go_wp2_with fail
   refine CAN.out.mono ?_
   rintro e w4 ⟨y, rfl, hy, hb4, hn⟩
   have hz4 := hb4.size
   have h04 := H03.out.trans (hb4.mono H03.out.size)
   have HY := hid hy; have HN := hid hn
   clear x0 x1 x2 x3 x4 x5 CAN hy hn
   generalize hcc : canC (subD c.d x) = cc at *
   by_cases hc0 : cc = 0
   ·subst hc0
    rw [if_pos rfl] at HR
    have hsame := HN.out rfl
    have henc : encO y = bytesU (subD c.d x) := sameD_enc hsame
    have hchk : K.SubV.check y = 0 := by rw [hsame.check]; exact norm_chk _ hcc
    have hnum := (checkI_num hchk).2
    have hs1 : y.s1 = c.last + 1 := hsame.s1
    rw [hs1] at hnum
    have hby : (bytesU (subD c.d x)).length ≤ 10000 ∧ ∀ z ∈ bytesU (subD c.d x), z < 256 := ⟨normU_len _, P.encO_byte _⟩
    have HBY := hid hby
    generalize bytesU (subD c.d x) = E at *
    have HENC := hid henc; have HCHK := hid hchk
    clear hsame henc hchk hs1 hcc HN hby
    go_upto_region 9 with fail
    generalize hW5 : World.alloc _ _ = w5
    have hb5 : Below w4.heap.size w4 w5 := by rw [← hW5]; (repeat (first | with_reducible exact Below.refl _ _ | ((with_reducible refine Below.alloc1 ?_ ?_ _); (· first | omega | (simp; done) | (simp; omega))) | (with_reducible refine Below.drew ?_) | (with_reducible refine below_drewN' ?_ _) | ((with_reducible refine Below.setCell1 ?_ ?_ _); (· first | omega | (simp; done) | (simp; omega))) | ((with_reducible refine Below.after (by assumption) ?_ ?_); (· first | omega | (simp; done) | (simp; omega)))))
    have hz5 : w4.heap.size < w5.heap.size := by rw [← hW5]; simp
    have q5 : w5.heap[w4.heap.size]? = some (.cells #[.int .i64 y.s0, .int .i64 y.s1, .int .i64 y.s2, .slice y.ra y.rs.length y.rc, .slice y.sa y.ss.length y.sc, .slice y.wa y.ws.length y.wc] 35 (0, 0)) := by rw [← hW5]; simpa using heap_alloc_new w4 _
    have h05 := h04.trans (hb5.mono h04.size)
    obtain ⟨x0, x1, x2, x3, x4, x5⟩ := box6 q5
    have EN := encode_any y w5 (HY.out.below hb5)
    unfold EncRet at EN
    rw [HENC.out, HCHK.out] at EN
    have EN := hid EN
    clear hW5 q5 hb5
    go_wp2_with fail
    refine EN.out.mono ?_
    rintro e w6 ⟨a6, c6, rfl, ho6, hb6⟩
    have h06 := h05.trans (hb6.mono h05.size)
    have HC6 := HC.out.below h06
    have hz6 := h06.size
    obtain ⟨st, w7, w8, hent, hsto, hown8, hturn, hturn7⟩ := newEntry HC6.map mapKeyed Tryz.underlying88 (by have := HC6.last; unfold maxLen; omega) (key := .int .i64 (c.last + 1)) (val := .slice a6 E.length c6) (keyOf_int_mk Tryz.underlying2 (lit_wf ⟨by have := HC6.last; omega, by have := HC6.last; omega⟩)) rfl (fun u => Tryz.zeroValue47 u) (zd := .held (.slice none 0 0)) (zp := []) rfl (by
     rw [dat_has, List.any_eq_false]
     intro o ho
     have := (HC6.num o ho).2
     simp; omega)
    have hadd := HC6.added (o := ⟨c.last + 1, a6, c6, E⟩) rfl hnum (K.own_le ho6 (by have := h05.size; omega)) HBY.out hturn hown8 (by omega)
    obtain ⟨hfin, hbel, k1, f1⟩ := hadd
    have hcell7 : w7.heap[p]? = w6.heap[p]? := hturn7.grown.block p HC6.lt fun he => by
     have he := Option.some.inj he
     obtain ⟨es, clock, hb, _⟩ := HC6.map
     have := HC6.box
     rw [he, hb] at this
     cases this
    obtain ⟨b0, b1, b2, b3, b4, b5⟩ := HC6.cells
    have HFIN := hid hfin
    have HBEL := hid (And.intro ((h06.mono hBw).trans hbel.1) ((FrC.of_below h06).trans hbel.2))
    have HDD : Hid ((CL.d { c with last := c.last + 1, os := c.os ++ [⟨c.last + 1, a6, c6, E⟩] }) = R.1) := hid (by
     rw [HR.out]
     unfold CL.d
     simp only [List.map_append, List.map_cons, List.map_nil])
    have HR2 : Hid (R.2.1 = c.last + 1) := hid (by rw [HR.out]; rfl)
    have HR3 : Hid (R.2.2 = 0) := hid (by rw [HR.out])
    have hlast := HC6.last
    simp only [goInt] at hent hsto
    clear hfin hbel hown8 hturn hturn7 hcell7 ho6 b0 b2 b3 b5 x0 x1 x2 x3 x4 x5 EN HC6 h04 h05
    generalize E.length = m6 at *
    go_wp2_with fail
    exact bodyPost_ret (v := .tuple #[.int .i64 (c.last + 1), .int .i64 0]) (by simp [results, Tryz.results15, go_sem]) rfl ⟨by rw [HR2.out, HR3.out], HBEL.out, _, HFIN.out, HDD.out, rfl⟩
   ·rw [if_neg hc0] at HR
    have hcb : (cc != 0) = true := by simpa using hc0
    have HR1 : Hid (c.d = R.1) := hid (by rw [HR.out])
    have HR2 : Hid (R.2.1 = 0) := hid (by rw [HR.out])
    have HR3 : Hid (R.2.2 = cc) := hid (by rw [HR.out])
    go_wp2_with fail
    have hfin : ∀ W, Below w4.heap.size w4 W → AddRet B p R c.ma w (.returned (.tuple #[.int .i64 0, .int .i64 cc])) W := fun W hb => ⟨by rw [HR2.out, HR3.out], ⟨(h04.trans (hb.mono h04.size)).mono hBw, FrC.of_below (h04.trans (hb.mono h04.size))⟩, c, HC.out.below (h04.trans (hb.mono h04.size)), HR1.out, rfl⟩
    exact bodyPost_ret (v := .tuple #[.int .i64 0, .int .i64 cc]) (by simp [results, Tryz.results15, go_sem]) rfl (hfin _ (by (repeat (first | with_reducible exact Below.refl _ _ | ((with_reducible refine Below.alloc1 ?_ ?_ _); (· first | omega | (simp; done) | (simp; omega))) | (with_reducible refine Below.drew ?_) | (with_reducible refine below_drewN' ?_ _) | ((with_reducible refine Below.setCell1 ?_ ?_ _); (· first | omega | (simp; done) | (simp; omega))) | ((with_reducible refine Below.after (by assumption) ?_ ?_); (· first | omega | (simp; done) | (simp; omega)))))))
end Go.Proofs.YtekmadgacepdfaaGreat.U
