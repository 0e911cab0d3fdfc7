/- The document's client opens a submission. -/
import Derived.Test.YtekmadgacepdfaaGreatQ0
import Derived.Test.YtekmadgacepdfaaGreatMWA
import Derived.Test.YtekmadgacepdfaaGreatMUC
import Derived.Test.YtekmadgacepdfaaGreatMPY
import Derived.Test.YtekmadgacepdfaaGreatNoteI
namespace Go.Proofs.YtekmadgacepdfaaGreat.U
set_option linter.unusedVariables false
open Go.RowKit Fl Go.Maps
open Go.Proofs.YtekmadgacepdfaaGreat.P (bCells encO SameD box6 BRet docBytes_any valsOf packB)
open Go.Proofs.YtekmadgacepdfaaGreat.K (canC Fits)
set_option linter.unusedSimpArgs false

theorem appI' {w : World} {base B : Nat} {a : Option Addr} {c n : Nat} {xs : List OItem} (y : OItem) (hn : xs.length = n) (hown : w.ownsRow base 55 2 (.slice a n c) n (iCells xs)) (hB : w.heap[B]? = some (.cells #[.int .i64 y.seq, y.val] 55 (0, 0))) (hbase : base ≤ w.heap.size) (hl : n ≤ 1099511627776) :
  ∃ a' c' w', (∀ ty, (Builtin.append_ #[27, 27] ty #[.slice a n c, .slice (some ⟨B, 0, none⟩) 1 1]).run Tryz.prog w = .ok (.slice a' (n + 1) c') w') ∧
   w'.ownsRow base 55 2 (.slice a' (n + 1) c') (n + 1) (iCells (xs ++ [y])) ∧ w.grownBy w' (Value.slice a n c).ownBlock := by
 obtain ⟨i0, hi0, hz0, hzs, hzb⟩ := info_parts itemInfo
 obtain ⟨v', w', hr, h2, h3⟩ := run_append_own2 (P := Tryz.prog) w base 27 55 i0 _ 2 32 Tryz.underlying27 hi0 hz0 hzs hzb rfl (by omega) _ _ _ hown ⟨B, 0, none⟩ 1 1 (iEnc y) rfl
  (fun j u hj => by
   rw [K.addr0, cell_of_row _ _ j _ _ (0, 0) hB]
   rw [← hj]; simp [iEnc]) (fun u hu => iCells_one [y] u (by unfold iCells; simpa using hu)) (by omega) (by unfold maxLen; omega) (by omega) hbase
 have hc : iCells xs ++ iEnc y = iCells (xs ++ [y]) := by simp [iCells]
 rw [hc] at h2
 obtain ⟨a', c', rfl⟩ := own_sliceW (by omega) h2
 exact ⟨a', c', w', hr, h2, h3.1⟩
def BytesAt (L : List Nat) (v : Value) (w : World) : Prop := ∃ a c, v = .slice a L.length c ∧ w.ownsRow 0 5 1 (.slice a L.length c) L.length (bCells L)
def ItemAt (s : Int) (L : List Nat) (v : Value) (w : World) : Prop := ∃ a c, v = .agg #[.int .i64 s, .slice a L.length c] ∧ w.ownsRow 0 5 1 (.slice a L.length c) L.length (bCells L)
def ItemRow (s : Int) (L : List Nat) (v : Value) (w : World) : Prop := ∃ (B : Nat) (a : Option Addr) (c : Nat), v = .slice (some ⟨B, 0, none⟩) 1 1 ∧ w.heap[B]? = some (.cells #[.int .i64 s, .slice a L.length c] 55 (0, 0)) ∧ w.ownsRow 0 5 1 (.slice a L.length c) L.length (bCells L)
theorem BytesAt.below {L : List Nat} {v : Value} {w w' : World} (h : BytesAt L v w) (hb : Below w.heap.size w w') : BytesAt L v w' := by
 obtain ⟨a, c, h1, h2⟩ := h
 exact ⟨a, c, h1, fr_stay h2 (FrC.of_below hb) (by decide) (by decide)⟩
theorem ItemAt.below {s : Int} {L : List Nat} {v : Value} {w w' : World} (h : ItemAt s L v w) (hb : Below w.heap.size w w') : ItemAt s L v w' := by
 obtain ⟨a, c, h1, h4⟩ := h
 exact ⟨a, c, h1, fr_stay h4 (FrC.of_below hb) (by decide) (by decide)⟩
theorem ItemRow.below {s : Int} {L : List Nat} {v : Value} {w w' : World} (h : ItemRow s L v w) (hb : Below w.heap.size w w') : ItemRow s L v w' := by
 obtain ⟨B, a, c, h1, h2, h5⟩ := h
 exact ⟨B, a, c, h1, (hb.block B (Array.getElem?_eq_some_iff.1 h2).1).trans h2, fr_stay h5 (FrC.of_below hb) (by decide) (by decide)⟩
theorem ItemRow.mk' {s : Int} {L : List Nat} {a : Option Addr} {c : Nat} {w : World} (h : w.ownsRow 0 5 1 (.slice a L.length c) L.length (bCells L)) : ItemRow s L (.slice (some ⟨w.heap.size, 0, none⟩) 1 1) (w.alloc (.cells #[.int .i64 s, .slice a L.length c] 55)) :=
 ⟨_, a, c, rfl, heap_alloc_new w _, h.alloc _⟩
theorem bytes_call {y : SubV} {w W : World} (h : y.At w) (hck : K.SubV.check y = 0) (hb : Below w.heap.size w W) :
  Calls Tryz.prog 45 #[.agg #[.int .i64 y.s0, .int .i64 y.s1, .int .i64 y.s2, .slice y.ra y.rs.length y.rc, .slice y.sa y.ss.length y.sc, .slice y.wa y.ws.length y.wc]] W fun e w' => ∃ v, e = .returned v ∧ BytesAt (encO y) v w' ∧ Below W.heap.size W w' := by
 refine (docBytes_any y W (h.below hb) hck).mono ?_
 rintro e w' ⟨a, c, rfl, ho, hb'⟩
 have he : encO y = packB (valsOf y) := by unfold P.encO; rw [if_pos hck]
 exact ⟨_, rfl, ⟨a, c, by rw [he], by rw [he]; exact own_le' ho (Nat.zero_le _)⟩, hb'⟩
structure RetR (Y0 Y1 : World) (A : Value) (s : Nat) (n : Int) (L : Nat → Bool) (u : Nat → Value) (X : World) : Prop where
 w : X = if L 3 then Y1 else Y0
 v0 : L 0 = true → u 0 = A
 v1 : L 1 = true → u 1 = .pointer (some ⟨s, 1, none⟩)
 v2 : L 2 = true → u 2 = .int .i64 n
 v4 : L 4 = true → u 4 = .int .i64 n
 v5 : L 5 = true → u 5 = .int .i64 0
theorem keepU {p : Value → Prop} {L : Nat → Bool} {u : Nat → Value} {i j : Nat} {v : Value} (h : L j = true → p (u j)) (hv : j = i → p v) : setI L i j = true → p (setU u i v j) := by
 intro hl
 by_cases e : j = i
 ·subst e; rw [setU_self]; exact hv rfl
 ·rw [setU_ne e]; exact h (by rwa [setI_ne e] at hl)
theorem RetR.pure {Y0 Y1 X : World} {A : Value} {s : Nat} {n : Int} {L : Nat → Bool} {u : Nat → Value} (h : RetR Y0 Y1 A s n L u X) (j : Nat) (v : Value) (hj : j ≠ 3) (h0 : 0 = j → v = A) (h1 : 1 = j → v = .pointer (some ⟨s, 1, none⟩)) (h2 : 2 = j → v = .int .i64 n) (h4 : 4 = j → v = .int .i64 n) (h5 : 5 = j → v = .int .i64 0) :
  RetR Y0 Y1 A s n (setI L j) (setU u j v) X := by
 refine ⟨?_, keepU (p := (· = _)) h.v0 h0, keepU (p := (· = _)) h.v1 h1, keepU (p := (· = _)) h.v2 h2, keepU (p := (· = _)) h.v4 h4, keepU (p := (· = _)) h.v5 h5⟩
 rw [setI_ne (Ne.symm hj)]; exact h.w
theorem RetR.store {Y0 Y1 X : World} {A v : Value} {s : Nat} {n : Int} {L : Nat → Bool} {u : Nat → Value} (h : RetR Y0 Y1 A s n L u X) : RetR Y0 Y1 A s n (setI L 3) (setU u 3 v) Y1 := by
 refine ⟨by rw [setI_self]; rfl, keepU (p := (· = _)) h.v0 (fun e => by omega), keepU (p := (· = _)) h.v1 (fun e => by omega), keepU (p := (· = _)) h.v2 (fun e => by omega), keepU (p := (· = _)) h.v4 (fun e => by omega), keepU (p := (· = _)) h.v5 (fun e => by omega)⟩
def RARet (R : CD × Int × Int) (w : World) (e : Ending) (w' : World) : Prop := ∃ r : RC, e = .returned (.tuple #[.agg r.cells, .int .i64 R.2.1, .int .i64 R.2.2]) ∧ RCAt w' r ∧ RIs r R.1 ∧ Below w.heap.size w w'
theorem set1' {w : World} {p : Nat} {v0 v1 v2 v3 v4 v5 : Value} (h : RBox w p #[v0, v1, v2, v3, v4, v5]) (v : Value) : RBox (w.setCell ⟨p, 1, none⟩ v) p #[v0, v, v2, v3, v4, v5] ∧ w.grownBy (w.setCell ⟨p, 1, none⟩ v) (some p) := by
 obtain ⟨a, b⟩ := Go.Proofs.YtekmadgacepdfaaGreat.K.set1 (i := 1) h v
 exact ⟨a, b⟩
def XBox (w : World) (p : Nat) (cs : Array Value) : Prop := w.heap[p]? = some (.cells cs 35 (0, 0))
theorem XBox.lt {w : World} {p : Nat} {cs : Array Value} (h : XBox w p cs) : p < w.heap.size := (Array.getElem?_eq_some_iff.1 h).1
theorem XBox.below {w w' : World} {p : Nat} {cs : Array Value} (h : XBox w p cs) (hb : Below w.heap.size w w') : XBox w' p cs := (hb.block p h.lt).trans h
theorem XBox.other {w w' : World} {p q : Nat} {cs : Array Value} (h : XBox w p cs) (hg : w.grownBy w' (some q)) (hne : p ≠ q) : XBox w' p cs := (hg.block p h.lt fun e => hne (Option.some.inj e)).trans h
theorem RCAt.xbox {w w' : World} {r : RC} {p : Nat} {bs : Array Value} (h : RCAt w r) (hp : XBox w p bs) (hg : w.grownBy w' (some p)) : RCAt w' r := by
 have key : ∀ {B K n : Nat} {e : TypeId} {v : Value} {cs : List Value}, w.ownsRow B e K v n cs → e ≠ 35 → w'.ownsRow B e K v n cs := fun h he => own_stay h fun g cur _ hc => hg.block g (Array.getElem?_eq_some_iff.1 hc).1 fun h1 => by
  have h2 := Option.some.inj h1
  subst h2
  unfold XBox at hp
  rw [hc] at hp
  simp only [Option.some.injEq, Obj.cells.injEq] at hp
  exact he hp.2.1
 exact ⟨key h.mem (by decide), key h.ops (by decide), fun o ho => key (h.item o ho) (by decide), key h.res (by decide)⟩
theorem full_eq {r : RC} {d : CD} (hi : RIs r d) (hk : DOk d) : (r.os = [] ∧ fullD d = false) ∨ ∃ o os, r.os = o :: os ∧ 1 ≤ o.seq ∧ o.seq ≤ r.last ∧ fullD d = decide (8 ≤ r.last + 1 - o.seq) := by
 cases ho : r.os with
 | nil =>
  refine .inl ⟨rfl, ?_⟩
  unfold fullD
  rw [← hi.os, ho]; rfl
 | cons o os =>
  refine .inr ⟨o, os, rfl, ?_⟩
  have hd : d.os = (o.seq, o.bs) :: os.map fun o => (o.seq, o.bs) := by rw [← hi.os, ho]; rfl
  have := hk.num (o.seq, o.bs) (by rw [hd]; exact List.mem_cons_self ..)
  refine ⟨this.1, by rw [hi.last]; exact this.2, ?_⟩
  unfold fullD
  rw [hd, hi.last]
set_option maxHeartbeats 4000000 in
set_option maxRecDepth 100000 in
theorem refAdd_any (r : RC) (d : CD) (x : SubV) (w : World) (h : RCAt w r) (hi : RIs r d) (hk : DOk d) (hx : x.At w) (hf : Fits x) :
  Calls Tryz.prog 16 #[.agg #[.int .i64 r.ses, .int .i64 r.last, .slice r.ma r.ms.length r.mc, .int .i64 r.tg, .slice r.oa r.os.length r.oc, .slice r.ra r.rs.length r.rc], .agg #[.int .i64 x.s0, .int .i64 x.s1, .int .i64 x.s2, .slice x.ra x.rs.length x.rc, .slice x.sa x.ss.length x.sc, .slice x.wa x.ws.length x.wc]] w (RARet (addD d x) w) := by
 have HI := hid hi; have HK := hid hk; have HX := hid hx
 have HF : Hid (Fits (subD d x)) := hid hf
 have HFU := hid (full_eq hi hk)
 obtain ⟨no, hno⟩ : ∃ n, n = r.os.length := ⟨_, rfl⟩
 obtain ⟨nr, hnr⟩ : ∃ n, n = r.rs.length := ⟨_, rfl⟩
 obtain ⟨nm, hnm⟩ : ∃ n, n = r.ms.length := ⟨_, rfl⟩
 have hmany := hk.many
 have hlast := hk.last
 have hol : d.os.length = no := by rw [← hi.os, List.length_map, hno]
 have hno40 : no ≤ 1099511627776 := by omega
 rw [← hi.last] at hlast
 have HNO := hid hno; have HNR := hid hnr; have HNM := hid hnm
 rw [← hno, ← hnr, ← hnm]
 have hsub : subD d x = { x with s0 := r.ses, s1 := r.last + 1 } := by unfold subD; rw [hi.ses, hi.last]
 have HSUB := hid hsub
 generalize hD : RARet (addD d x) w = D
 have HD := hid hD
 have HR := hid h
 clear h hi hk hno hnr hnm hmany hol hD hsub hx hf
 go_enter Tryz.func16, Tryz.ntmps16
 go_upto_region 1 with fail
 obtain ⟨w0, hw0⟩ : ∃ w0, w0 = ((w.alloc (.cells #[.int .i64 r.ses, .int .i64 r.last, .slice r.ma nm r.mc, .int .i64 r.tg, .slice r.oa no r.oc, .slice r.ra nr r.rc] 30)).alloc (.cells #[.int .i64 x.s0, .int .i64 x.s1, .int .i64 x.s2, .slice x.ra x.rs.length x.rc, .slice x.sa x.ss.length x.sc, .slice x.wa x.ws.length x.wc] 35)).alloc (.cells #[.int .i64 0, .int .i64 0, .slice none 0 0, .int .i64 0, .slice none 0 0, .slice none 0 0] 30) := ⟨_, rfl⟩
 have hP : RBox w0 w.heap.size #[.int .i64 r.ses, .int .i64 r.last, .slice r.ma nm r.mc, .int .i64 r.tg, .slice r.oa no r.oc, .slice r.ra nr r.rc] := by
  rw [hw0]
  exact (Below.heap_alloc _ _ w.heap.size (by simp; omega)).trans ((Below.heap_alloc _ _ w.heap.size (by simp)).trans (heap_alloc_new w _))
 have hS : XBox w0 (w.heap.size + 1) #[.int .i64 x.s0, .int .i64 x.s1, .int .i64 x.s2, .slice x.ra x.rs.length x.rc, .slice x.sa x.ss.length x.sc, .slice x.wa x.ws.length x.wc] := by
  rw [hw0]
  refine (Below.heap_alloc _ _ (w.heap.size + 1) (by simp)).trans ?_
  have := heap_alloc_new (w.alloc (.cells #[.int .i64 r.ses, .int .i64 r.last, .slice r.ma nm r.mc, .int .i64 r.tg, .slice r.oa no r.oc, .slice r.ra nr r.rc] 30)) (.cells #[.int .i64 x.s0, .int .i64 x.s1, .int .i64 x.s2, .slice x.ra x.rs.length x.rc, .slice x.sa x.ss.length x.sc, .slice x.wa x.ws.length x.wc] 35)
  simpa [XBox] using this
 have hQ : RBox w0 (w.heap.size + 1 + 1) #[.int .i64 0, .int .i64 0, .slice none 0 0, .int .i64 0, .slice none 0 0, .slice none 0 0] := by
  rw [hw0]
  have := heap_alloc_new ((w.alloc (.cells #[.int .i64 r.ses, .int .i64 r.last, .slice r.ma nm r.mc, .int .i64 r.tg, .slice r.oa no r.oc, .slice r.ra nr r.rc] 30)).alloc (.cells #[.int .i64 x.s0, .int .i64 x.s1, .int .i64 x.s2, .slice x.ra x.rs.length x.rc, .slice x.sa x.ss.length x.sc, .slice x.wa x.ws.length x.wc] 35)) (.cells #[.int .i64 0, .int .i64 0, .slice none 0 0, .int .i64 0, .slice none 0 0, .slice none 0 0] 30)
  simpa [RBox] using this
 have hb0 : Below w.heap.size w w0 := by rw [hw0]; (repeat (first | with_reducible exact Below.refl _ _ | ((with_reducible refine Below.alloc1 ?_ ?_ _); (· first | omega | (simp; done) | (simp; omega))) | (with_reducible refine Below.drew ?_) | (with_reducible refine below_drewN' ?_ _) | ((with_reducible refine Below.setCell1 ?_ ?_ _); (· first | omega | (simp; done) | (simp; omega))) | ((with_reducible refine Below.after (by assumption) ?_ ?_); (· first | omega | (simp; done) | (simp; omega)))))
 rw [← hw0]
 clear hw0
 have hz0 := hb0.size
 have hR0 := HR.out.below hb0
 obtain ⟨p, hp⟩ : ∃ p, p = w.heap.size := ⟨_, rfl⟩
 obtain ⟨s, hs⟩ : ∃ s, s = w.heap.size + 1 := ⟨_, rfl⟩
 obtain ⟨q, hq⟩ : ∃ q, q = w.heap.size + 1 + 1 := ⟨_, rfl⟩
 have hpw : w.heap.size ≤ p := by omega
 have hsw : w.heap.size ≤ s := by omega
 have hqw : w.heap.size ≤ q := by omega
 have hpq : p ≠ q := by omega
 have hps : p ≠ s := by omega
 have hsq : s ≠ q := by omega
 rw [← hq] at hQ ⊢
 rw [← hs] at hS ⊢
 rw [← hp] at hP ⊢
 have HP := hid hP; have HQ := hid hQ; have HS := hid hS; have HR0 := hid hR0; have HB0 := hid hb0
 have HX0 := hid (HX.out.below hb0)
 have hpl := hP.lt
 have hql := hQ.lt
 have hsl := hS.lt
 clear hP hQ hS hR0 hp hq hs HR hb0
 obtain ⟨⟨p0, p1, p2, p3, p4, p5⟩, f0, f1, f2, f3, f4, f5⟩ := HP.out.cells
 go_cut [26] from 11 to 26 (fun t26 wc => t26 = .bool (fullD d) ∧ Below w0.heap.size w0 wc)
 case first =>
  rcases HFU.out with ⟨ho, hfull⟩ | ⟨o, os, ho, h1, h2, hfull⟩
  ·have hn0 : no = 0 := by rw [HNO.out, ho]; rfl
   have hnn : ¬ (0 : Int) < (no : Int) := by omega
   have hnd : decide (0 < no) = false := by rw [decide_eq_false_iff_not]; omega
   clear hn0 ho
   go_quiet (fail)
   go_wp2_with fail
   go_meet
   case rel => exact ⟨by rw [hfull], below_drewN' (Below.refl _ _) _⟩
  ·have hnp : 0 < no := by rw [HNO.out, ho]; simp
   have hops := HR0.out.ops
   rw [← HNO.out, ho] at hops
   obtain ⟨g, hga, hgl, hc0⟩ := own_at (f := iEnc) (i := 0) (x := o) (fun _ => rfl) hops rfl (t := 0) (by omega) rfl
   rw [hga] at p4
   rw [Nat.zero_mul, Nat.add_zero] at hc0
   have hk1 : (0 : Int) < (no : Int) := by omega
   have hnd : decide (0 < no) = true := decide_eq_true hnp
   clear hops ho hga hno40
   cases hfv : fullD d
   ·rw [hfv] at hfull
    have hf8 : decide (8 ≤ r.last + 1 - o.seq) = false := hfull.symm
    clear hfull
    go_quiet (fail)
    go_wp2_with fail
    go_meet
    case rel => exact ⟨by rw [hfv], below_drewN' (Below.refl _ _) _⟩
   ·rw [hfv] at hfull
    have hf8 : decide (8 ≤ r.last + 1 - o.seq) = true := hfull.symm
    clear hfull
    go_quiet (fail)
    go_wp2_with fail
    go_meet
    case rel => exact ⟨by rw [hfv], below_drewN' (Below.refl _ _) _⟩
 case rest =>
  obtain ⟨rfl, hbc⟩ := hcut
  obtain ⟨W1, rfl⟩ : ∃ x, x = wc := ⟨_, rfl⟩
  have HP1 := hid (HP.out.below hbc); have HQ1 := hid (HQ.out.below hbc); have HS1 := hid (HS.out.below hbc); have HR1 := hid (HR0.out.below hbc)
  have HX1 := hid (HX0.out.below hbc)
  have HB1 := hid (HB0.out.trans (hbc.mono hz0))
  have hz1 := HB1.out.size
  clear p0 p1 p2 p3 p4 p5 f0 f1 f2 f3 f4 f5 hpl hql hsl HP HQ HS HR0 HX0 HB0 hbc HFU hz0
  obtain ⟨⟨p0, p1, p2, p3, p4, p5⟩, f0, f1, f2, f3, f4, f5⟩ := HP1.out.cells
  obtain ⟨⟨y0, y1, y2, y3, y4, y5⟩, e0, e1, e2, e3, e4, e5⟩ := HQ1.out.cells
  obtain ⟨x0, x1, x2, x3, x4, x5⟩ := box6 HS1.out
  have hpl := HP1.out.lt
  have hql := HQ1.out.lt
  have hsl := HS1.out.lt
  -- what hands the client back as it was
  have SAME := hid fun (er : Int) (hE : addD d x = (d, 0, er)) (W : World) (hbW : Below w.heap.size w W) (hRW : RCAt W r) (hQW : RBox W q #[.int .i64 0, .int .i64 0, .slice none 0 0, .int .i64 0, .slice none 0 0, .slice none 0 0]) (W' : World) (hg : W.grownBy W' (some q)) => (show D (.returned (.tuple #[.agg #[.int .i64 r.ses, .int .i64 r.last, .slice r.ma nm r.mc, .int .i64 r.tg, .slice r.oa no r.oc, .slice r.ra nr r.rc], .int .i64 0, .int .i64 er])) W' by
   rw [← HD.out, hE]
   exact ⟨r, by rw [HNM.out, HNO.out, HNR.out]; rfl, hRW.box hQW hg, HI.out, hbW.grown hg hbW.size (fun k hk => by cases hk; exact hqw)⟩)
  cases hfull : fullD d
  rotate_left
  ·have hE : addD d x = (d, 0, 3) := by unfold addD; rw [if_pos hfull]
   have HSS := hid fun v0 v1 v2 v3 v4 v5 => SAME.out 3 hE W1 HB1.out HR1.out HQ1.out _ (set6 HQ1.out v0 v1 v2 v3 v4 v5).2
   clear hE SAME hfull
   go_wp2_with fail
   refine bodyPost_ret (v := .tuple #[.agg #[.int .i64 r.ses, .int .i64 r.last, .slice r.ma nm r.mc, .int .i64 r.tg, .slice r.oa no r.oc, .slice r.ra nr r.rc], .int .i64 0, .int .i64 3]) (by simp [results, Tryz.results16, go_sem, *]) rfl ?_
   exact HSS.out _ _ _ _ _ _
  have hnf : ¬ fullD d = true := by rw [hfull]; decide
  have HNF := hid hnf
  clear hfull hnf
  obtain ⟨s1, g1⟩ := K.set1 (i := 0) HS1.out (.int .i64 r.ses)
  obtain ⟨s2, g2⟩ := K.set1 (i := 1) s1 (.int .i64 (r.last + 1))
  have xf0 : W1.frozen? ⟨s, 0, none⟩ = false := by have := HS1.out; unfold XBox at this; simp [World.frozen?, this]
  have xf1 : W1.frozen? ⟨s, 1, none⟩ = false := by have := HS1.out; unfold XBox at this; simp [World.frozen?, this]
  have hS3 : XBox ((W1.setCell ⟨s, 0, none⟩ (.int .i64 r.ses)).setCell ⟨s, 1, none⟩ (.int .i64 (r.last + 1))) s #[.int .i64 r.ses, .int .i64 (r.last + 1), .int .i64 x.s2, .slice x.ra x.rs.length x.rc, .slice x.sa x.ss.length x.sc, .slice x.wa x.ws.length x.wc] := s2
  have hg3 := g1.trans g2
  have HP3 := hid (HP1.out.other hg3 hps); have HQ3 := hid (HQ1.out.other hg3 (Ne.symm hsq)); have HR3 := hid (HR1.out.xbox HS1.out hg3)
  have HB3 := hid (HB1.out.grown hg3 hz1 (fun k hk => by cases hk; exact hsw))
  have HS3 := hid hS3
  have HX3 := hid (HX.out.below HB3.out)
  clear s1 g1 s2 g2 hS3 hg3 y0 y1 y2 y3 y4 y5 e0 e1 e2 e3 e4 e5 p2 p3 p4 p5 f0 f1 f2 f3 f4 f5
  go_upto_region 5 with fail
  clear x0 x1 x2 x3 x4 x5 p0 p1 xf0 xf1 hpl hql hsl
  generalize (W1.setCell ⟨s, 0, none⟩ (.int .i64 r.ses)).setCell ⟨s, 1, none⟩ (.int .i64 (r.last + 1)) = W3 at *
  clear HP1 HQ1 HS1 HR1 HX1 HB1 hz1
  obtain ⟨x0, x1, x2, x3, x4, x5⟩ := box6 HS3.out
  have hsl := HS3.out.lt
  have hz3 := HB3.out.size
  have hF' : Fits { x with s0 := r.ses, s1 := r.last + 1 } := by have := HF.out; rw [HSUB.out] at this; exact this
  have CAN := hid (refCanon_u { x with s0 := r.ses, s1 := r.last + 1 } W3 ⟨HX3.out.r, HX3.out.s, HX3.out.w⟩ hF')
  have HCC : Hid (CanonU { x with s0 := r.ses, s1 := r.last + 1 } W3 = CanonU (subD d x) W3) := hid (by rw [HSUB.out])
  rw [HCC.out] at CAN
  simp only at CAN
  clear hF' HCC
  go_wp2_with fail
  refine CAN.out.mono ?_
  rintro e w4 ⟨y, rfl, hy, hb4, hn⟩
  have HY := hid hy; have HN := hid hn
  have HB4 := hid (HB3.out.trans (hb4.mono hz3))
  have HP4 := hid (HP3.out.below hb4); have HQ4 := hid (HQ3.out.below hb4); have HS4 := hid (HS3.out.below hb4); have HR4 := hid (HR3.out.below hb4)
  clear x0 x1 x2 x3 x4 x5 CAN hy hn hb4 HB3 HP3 HQ3 HS3 HR3 hsl hz3 HX3 HF
  obtain ⟨cc, hcc⟩ : ∃ cc, cc = canC (subD d x) := ⟨_, rfl⟩
  rw [← hcc]
  have HCC := hid hcc
  clear hcc
  have hz4 := HB4.out.size
  obtain ⟨w5, hw5⟩ : ∃ w5, w5 = w4.alloc (.cells #[.int .i64 y.s0, .int .i64 y.s1, .int .i64 y.s2, .slice y.ra y.rs.length y.rc, .slice y.sa y.ss.length y.sc, .slice y.wa y.ws.length y.wc] 35) := ⟨_, rfl⟩
  have hb45 : Below w4.heap.size w4 w5 := by rw [hw5]; (repeat (first | with_reducible exact Below.refl _ _ | ((with_reducible refine Below.alloc1 ?_ ?_ _); (· first | omega | (simp; done) | (simp; omega))) | (with_reducible refine Below.drew ?_) | (with_reducible refine below_drewN' ?_ _) | ((with_reducible refine Below.setCell1 ?_ ?_ _); (· first | omega | (simp; done) | (simp; omega))) | ((with_reducible refine Below.after (by assumption) ?_ ?_); (· first | omega | (simp; done) | (simp; omega)))))
  have hy5 : XBox w5 w4.heap.size #[.int .i64 y.s0, .int .i64 y.s1, .int .i64 y.s2, .slice y.ra y.rs.length y.rc, .slice y.sa y.ss.length y.sc, .slice y.wa y.ws.length y.wc] := by rw [hw5]; exact heap_alloc_new w4 _
  have HB5 := hid (HB4.out.trans (hb45.mono hz4))
  have HP5 := hid (HP4.out.below hb45); have HQ5 := hid (HQ4.out.below hb45); have HS5 := hid (HS4.out.below hb45); have HR5 := hid (HR4.out.below hb45)
  have HY5 := hid (HY.out.below hb45)
  have HYB := hid hy5
  clear HP4 HQ4 HS4 HR4 HY HB4 hy5 hb45
  go_upto_region 6 with fail
  rw [← hw5]
  obtain ⟨b7, hb7⟩ : ∃ b, b = w4.heap.size := ⟨_, rfl⟩
  rw [← hb7] at HYB ⊢
  have hw7 : w.heap.size ≤ b7 := by omega
  clear hb7 hw5 hz4
  have hz5 := HB5.out.size
  obtain ⟨⟨p0, p1, p2, p3, p4, p5⟩, f0, f1, f2, f3, f4, f5⟩ := HP5.out.cells
  obtain ⟨⟨y0, y1, y2, y3, y4, y5⟩, e0, e1, e2, e3, e4, e5⟩ := HQ5.out.cells
  have hpl := HP5.out.lt
  have hql := HQ5.out.lt
  by_cases hc0 : cc = 0
  rotate_left
  ·have hcb : (cc != 0) = true := by simpa using hc0
   have hE : addD d x = (d, 0, cc) := by unfold addD; rw [if_neg HNF.out, ← HCC.out, if_neg hc0]
   have HSS := hid fun v0 v1 v2 v3 v4 v5 => SAME.out cc hE w5 HB5.out HR5.out HQ5.out _ (set6 HQ5.out v0 v1 v2 v3 v4 v5).2
   clear hE SAME hc0
   go_wp2_with fail
   refine bodyPost_ret (v := .tuple #[.agg #[.int .i64 r.ses, .int .i64 r.last, .slice r.ma nm r.mc, .int .i64 r.tg, .slice r.oa no r.oc, .slice r.ra nr r.rc], .int .i64 0, .int .i64 cc]) (by simp [results, Tryz.results16, go_sem, *]) rfl ?_
   exact HSS.out _ _ _ _ _ _
  subst hc0
  clear SAME
  have hsame := HN.out HCC.out.symm
  have henc : encO y = bytesU (subD d x) := sameD_enc hsame
  have hchk : K.SubV.check y = 0 := by rw [hsame.check]; exact norm_chk _ HCC.out.symm
  have HENC := hid henc; have HCHK := hid hchk
  have HADD : Hid (addD d x = ({ d with last := d.last + 1, os := d.os ++ [(d.last + 1, bytesU (subD d x))] }, d.last + 1, 0)) := hid (by unfold addD; rw [if_neg HNF.out, if_pos HCC.out.symm])
  clear hsame henc hchk HN HCC HNF
  generalize bytesU (subD d x) = E at *
  have hO0 : (w5.alloc (.cells #[] 55)).ownsRow w5.heap.size 55 2 (.slice (some ⟨w5.heap.size, 0, none⟩) 0 0) 0 (iCells (r.os.take 0)) := World.ownsRow_made w5 #[] 0 (Nat.le_refl _) (by unfold maxLen; omega) rfl
  have HO0 := hid hO0
  clear hO0
  go_upto_region 10 with fail
  clear p0 p1 p2 p3 p4 p5 f0 f1 f2 f3 f4 f5 y0 y1 y2 y3 y4 y5 e0 e1 e2 e3 e4 e5
  go_loopw [9, 10] (fun t9 t10 wx => ∃ (j : Nat) (a2 : Option Addr) (c2 : Nat), t10 = .int .i64 (j : Nat) ∧ t9 = .slice a2 j c2 ∧ j ≤ no ∧ Hid (wx.ownsRow w5.heap.size 55 2 (.slice a2 j c2) j (iCells (r.os.take j))) ∧ Below w5.heap.size w5 wx) (fun _ t10 _ => no - (intOf t10).toNat)
  case atStart => exact ⟨0, _, _, rfl, rfl, Nat.zero_le _, HO0, by (repeat (first | with_reducible exact Below.refl _ _ | ((with_reducible refine Below.alloc1 ?_ ?_ _); (· first | omega | (simp; done) | (simp; omega))) | (with_reducible refine Below.drew ?_) | (with_reducible refine below_drewN' ?_ _) | ((with_reducible refine Below.setCell1 ?_ ?_ _); (· first | omega | (simp; done) | (simp; omega))) | ((with_reducible refine Below.after (by assumption) ?_ ?_); (· first | omega | (simp; done) | (simp; omega)))))⟩
  case round =>
   obtain ⟨j, a2, c2, rfl, rfl, hj, HX2, hbj⟩ := hrel
   clear HO0
   have hzj := hbj.size
   have hbx := HP5.out.below hbj
   obtain ⟨⟨p0, p1, p2, p3, p4, p5⟩, f0, f1, f2, f3, f4, f5⟩ := hbx.cells
   have hpl2 := hbx.lt
   by_cases hjn : j < no
   ·have hjn' : (j : Int) < (no : Int) := by omega
    have hjl : j < r.os.length := by rw [← HNO.out]; exact hjn
    obtain ⟨o, ho⟩ : ∃ o, r.os[j]? = some o := ⟨_, List.getElem?_eq_getElem hjl⟩
    have hops := (HR5.out.below hbj).ops
    rw [← HNO.out] at hops
    obtain ⟨g, hga, hgl, hc0⟩ := own_at (f := iEnc) (fun _ => rfl) hops ho (t := 0) (by omega) rfl
    obtain ⟨g', hga', -, hc1⟩ := own_at (f := iEnc) (fun _ => rfl) hops ho (t := 1) (by omega) rfl
    rw [hga] at hga' p4
    cases hga'
    rw [Nat.add_zero] at hc0
    obtain ⟨a3, c3, w3, hr3, hO3, hb3, -⟩ := appI o (show (r.os.take j).length = j by rw [List.length_take]; omega) HX2.out hzj (by omega)
    rw [show r.os.take j ++ [o] = r.os.take (j + 1) by rw [List.take_add_one, ho]; rfl] at hO3
    have HO3 := hid hO3
    have HB3 := hid (hbj.trans hb3)
    clear hops hO3 hb3 HX2 f0 f1 f2 f3 f4 f5 p0 p1 p2 p3 p5 hga
    go_wp2_with (at_builtin; refine Lib.wpList_append_run _ rfl _ _ _ _ rfl _ _ rfl rfl _ _ (hr3 _) ?_)
    go_roundw
    case rel => exact ⟨j + 1, a3, c3, by go_num, rfl, by omega, HO3, HB3.out⟩
    case measure => simp [intOf]; omega
   ·obtain rfl : j = no := by omega
    have hge2 : ¬ (j : Int) < (j : Int) := by omega
    have htk : r.os.take j = r.os := by rw [HNO.out, List.take_length]
    rw [htk] at HX2
    obtain ⟨W6, rfl⟩ : ∃ x, x = wr := ⟨_, rfl⟩
    have HBJ := hid hbj
    have HYB6 := hid (HYB.out.below hbj)
    have HS6 := HS5.out.below hbj
    have hy6 := HY5.out.below hbj
    have hck := HCHK.out
    have HCALL := hid fun W (hb : Below W6.heap.size W6 W) => bytes_call hy6 hck hb
    rw [HENC.out] at HCALL
    have hsl := HS6.lt
    have hyl := HYB6.out.lt
    obtain ⟨x0, x1, x2, x3, x4, x5⟩ := box6 HS6
    obtain ⟨z0, z1, z2, z3, z4, z5⟩ := box6 HYB6.out
    clear HYB HY5 hbx hbj htk hck hy6 HS6
    go_upto_region 13 with fail
    refine wp_region_notes [Note.val (.slice a2 j c2), Note.val (.pointer (some ⟨s, 1, none⟩)), Note.val (.int .i64 (r.last + 1)), Note.val (.agg #[.int .i64 y.s0, .int .i64 y.s1, .int .i64 y.s2, .slice y.ra y.rs.length y.rc, .slice y.sa y.ss.length y.sc, .slice y.wa y.ws.length y.wc]), Note.fits (BytesAt E) (fun _ _ _ h hb => h.below hb), Note.fits (ItemAt (r.last + 1) E) (fun _ _ _ h hb => h.below hb), Note.fits (ItemRow (r.last + 1) E) (fun _ _ _ h hb => h.below hb)] rfl (by kernel_rfl) (by kernel_rfl) ?_ ?_
    ·simp only [List.length_cons, List.length_nil, Nat.reduceAdd, List.take_succ_cons, List.take_zero, StepsN, List.nil_append, List.cons_append]
     refine ⟨?_, ?_, ?_, ?_, ?_, ?_, ?_, trivial⟩
     ·intro u w6 hb6 hd
      obtain ⟨hc6, hf6⟩ := bcell hb6
      (try simp only [qD, qE, qF] at hc6 hf6)
      have hz6 := hb6.size
      (try simp at hz6)
      (try have hy6_0 : w.heap.size < w6.heap.size := by omega)
      (try have hy6_1 : w.heap.size + 1 < w6.heap.size := by omega)
      (try have hy6_2 : w.heap.size + 2 < w6.heap.size := by omega)
      (try have hy6_3 : w.heap.size + 3 < w6.heap.size := by omega)
      (try have hx6_0 : w.heap.size ≤ w6.heap.size := by omega)
      (try have hx6_1 : w.heap.size + 1 ≤ w6.heap.size := by omega)
      (try have hx6_2 : w.heap.size + 2 ≤ w6.heap.size := by omega)
      (try (simp [Region.binds, Note.phi, cellsAre] at hd))
      revert hd
      (try simp only [putsFrom, Act.put, qA, qB, qC, Nat.zero_add, Nat.reduceAdd])
      ((try simp only [forall_exists_index, and_imp]); intros)
      clear u
      go_wp2_with (first | (go_at_call 45; (with_reducible refine (HCALL.out _ (by assumption)).mono ?_); rintro e wy ⟨vy, rfl, hpy, hby⟩))
      exact ⟨rfl, by (repeat (first | with_reducible exact Below.refl _ _ | ((with_reducible refine Below.alloc1 ?_ ?_ _); (· first | omega | (simp; done) | (simp; omega))) | (with_reducible refine Below.drew ?_) | (with_reducible refine below_drewN' ?_ _) | ((with_reducible refine Below.setCell1 ?_ ?_ _); (· first | omega | (simp; done) | (simp; omega))) | ((with_reducible refine Below.after (by assumption) ?_ ?_); (· first | omega | (simp; done) | (simp; omega))))), rfl⟩
     ·intro u w6 hb6 hd
      obtain ⟨hc6, hf6⟩ := bcell hb6
      (try simp only [qD, qE, qF] at hc6 hf6)
      have hz6 := hb6.size
      (try simp at hz6)
      (try have hy6_0 : w.heap.size < w6.heap.size := by omega)
      (try have hy6_1 : w.heap.size + 1 < w6.heap.size := by omega)
      (try have hy6_2 : w.heap.size + 2 < w6.heap.size := by omega)
      (try have hy6_3 : w.heap.size + 3 < w6.heap.size := by omega)
      (try have hx6_0 : w.heap.size ≤ w6.heap.size := by omega)
      (try have hx6_1 : w.heap.size + 1 ≤ w6.heap.size := by omega)
      (try have hx6_2 : w.heap.size + 2 ≤ w6.heap.size := by omega)
      (try (simp [Region.binds, Note.phi, cellsAre] at hd))
      revert hd
      (try simp only [putsFrom, Act.put, qA, qB, qC, Nat.zero_add, Nat.reduceAdd])
      generalize u 0 = u0
      ((try simp only [forall_exists_index, and_imp]); intros)
      (try subst u0)
      clear u
      go_wp2_with (first | (go_at_call 45; (with_reducible refine (HCALL.out _ (by assumption)).mono ?_); rintro e wy ⟨vy, rfl, hpy, hby⟩))
      exact ⟨rfl, by (repeat (first | with_reducible exact Below.refl _ _ | ((with_reducible refine Below.alloc1 ?_ ?_ _); (· first | omega | (simp; done) | (simp; omega))) | (with_reducible refine Below.drew ?_) | (with_reducible refine below_drewN' ?_ _) | ((with_reducible refine Below.setCell1 ?_ ?_ _); (· first | omega | (simp; done) | (simp; omega))) | ((with_reducible refine Below.after (by assumption) ?_ ?_); (· first | omega | (simp; done) | (simp; omega))))), rfl⟩
     ·intro u w6 hb6 hd
      obtain ⟨hc6, hf6⟩ := bcell hb6
      (try simp only [qD, qE, qF] at hc6 hf6)
      have hz6 := hb6.size
      (try simp at hz6)
      (try have hy6_0 : w.heap.size < w6.heap.size := by omega)
      (try have hy6_1 : w.heap.size + 1 < w6.heap.size := by omega)
      (try have hy6_2 : w.heap.size + 2 < w6.heap.size := by omega)
      (try have hy6_3 : w.heap.size + 3 < w6.heap.size := by omega)
      (try have hx6_0 : w.heap.size ≤ w6.heap.size := by omega)
      (try have hx6_1 : w.heap.size + 1 ≤ w6.heap.size := by omega)
      (try have hx6_2 : w.heap.size + 2 ≤ w6.heap.size := by omega)
      (try (simp [Region.binds, Note.phi, cellsAre] at hd))
      revert hd
      (try simp only [putsFrom, Act.put, qA, qB, qC, Nat.zero_add, Nat.reduceAdd])
      generalize u 0 = u0
      generalize u 1 = u1
      ((try simp only [forall_exists_index, and_imp]); intros)
      (try subst u0)
      (try subst u1)
      clear u
      go_wp2_with (first | (go_at_call 45; (with_reducible refine (HCALL.out _ (by assumption)).mono ?_); rintro e wy ⟨vy, rfl, hpy, hby⟩))
      exact ⟨rfl, by (repeat (first | with_reducible exact Below.refl _ _ | ((with_reducible refine Below.alloc1 ?_ ?_ _); (· first | omega | (simp; done) | (simp; omega))) | (with_reducible refine Below.drew ?_) | (with_reducible refine below_drewN' ?_ _) | ((with_reducible refine Below.setCell1 ?_ ?_ _); (· first | omega | (simp; done) | (simp; omega))) | ((with_reducible refine Below.after (by assumption) ?_ ?_); (· first | omega | (simp; done) | (simp; omega))))), rfl⟩
     ·intro u w6 hb6 hd
      obtain ⟨hc6, hf6⟩ := bcell hb6
      (try simp only [qD, qE, qF] at hc6 hf6)
      have hz6 := hb6.size
      (try simp at hz6)
      (try have hy6_0 : w.heap.size < w6.heap.size := by omega)
      (try have hy6_1 : w.heap.size + 1 < w6.heap.size := by omega)
      (try have hy6_2 : w.heap.size + 2 < w6.heap.size := by omega)
      (try have hy6_3 : w.heap.size + 3 < w6.heap.size := by omega)
      (try have hx6_0 : w.heap.size ≤ w6.heap.size := by omega)
      (try have hx6_1 : w.heap.size + 1 ≤ w6.heap.size := by omega)
      (try have hx6_2 : w.heap.size + 2 ≤ w6.heap.size := by omega)
      (try (simp [Region.binds, Note.phi, cellsAre] at hd))
      revert hd
      (try simp only [putsFrom, Act.put, qA, qB, qC, Nat.zero_add, Nat.reduceAdd])
      generalize u 0 = u0
      generalize u 1 = u1
      generalize u 2 = u2
      ((try simp only [forall_exists_index, and_imp]); intros)
      (try subst u0)
      (try subst u1)
      (try subst u2)
      clear u
      go_wp2_with (first | (go_at_call 45; (with_reducible refine (HCALL.out _ (by assumption)).mono ?_); rintro e wy ⟨vy, rfl, hpy, hby⟩))
      exact ⟨rfl, by (repeat (first | with_reducible exact Below.refl _ _ | ((with_reducible refine Below.alloc1 ?_ ?_ _); (· first | omega | (simp; done) | (simp; omega))) | (with_reducible refine Below.drew ?_) | (with_reducible refine below_drewN' ?_ _) | ((with_reducible refine Below.setCell1 ?_ ?_ _); (· first | omega | (simp; done) | (simp; omega))) | ((with_reducible refine Below.after (by assumption) ?_ ?_); (· first | omega | (simp; done) | (simp; omega))))), rfl⟩
     ·intro u w6 hb6 hd
      obtain ⟨hc6, hf6⟩ := bcell hb6
      (try simp only [qD, qE, qF] at hc6 hf6)
      have hz6 := hb6.size
      (try simp at hz6)
      (try have hy6_0 : w.heap.size < w6.heap.size := by omega)
      (try have hy6_1 : w.heap.size + 1 < w6.heap.size := by omega)
      (try have hy6_2 : w.heap.size + 2 < w6.heap.size := by omega)
      (try have hy6_3 : w.heap.size + 3 < w6.heap.size := by omega)
      (try have hx6_0 : w.heap.size ≤ w6.heap.size := by omega)
      (try have hx6_1 : w.heap.size + 1 ≤ w6.heap.size := by omega)
      (try have hx6_2 : w.heap.size + 2 ≤ w6.heap.size := by omega)
      (try (simp [Region.binds, Note.phi, cellsAre] at hd))
      revert hd
      (try simp only [putsFrom, Act.put, qA, qB, qC, Nat.zero_add, Nat.reduceAdd])
      generalize u 0 = u0
      generalize u 1 = u1
      generalize u 2 = u2
      generalize u 3 = u3
      ((try simp only [forall_exists_index, and_imp]); intros)
      (try subst u0)
      (try subst u1)
      (try subst u2)
      (try subst u3)
      clear u
      go_wp2_with (first | (go_at_call 45; (with_reducible refine (HCALL.out _ (by assumption)).mono ?_); rintro e wy ⟨vy, rfl, hpy, hby⟩))
      exact ⟨rfl, by (repeat (first | with_reducible exact Below.refl _ _ | ((with_reducible refine Below.alloc1 ?_ ?_ _); (· first | omega | (simp; done) | (simp; omega))) | (with_reducible refine Below.drew ?_) | (with_reducible refine below_drewN' ?_ _) | ((with_reducible refine Below.setCell1 ?_ ?_ _); (· first | omega | (simp; done) | (simp; omega))) | ((with_reducible refine Below.after (by assumption) ?_ ?_); (· first | omega | (simp; done) | (simp; omega))))), by assumption⟩
     ·intro u w6 hb6 hd
      obtain ⟨hc6, hf6⟩ := bcell hb6
      (try simp only [qD, qE, qF] at hc6 hf6)
      have hz6 := hb6.size
      (try simp at hz6)
      (try have hy6_0 : w.heap.size < w6.heap.size := by omega)
      (try have hy6_1 : w.heap.size + 1 < w6.heap.size := by omega)
      (try have hy6_2 : w.heap.size + 2 < w6.heap.size := by omega)
      (try have hy6_3 : w.heap.size + 3 < w6.heap.size := by omega)
      (try have hx6_0 : w.heap.size ≤ w6.heap.size := by omega)
      (try have hx6_1 : w.heap.size + 1 ≤ w6.heap.size := by omega)
      (try have hx6_2 : w.heap.size + 2 ≤ w6.heap.size := by omega)
      (try (simp [Region.binds, Note.phi, cellsAre] at hd))
      revert hd
      (try simp only [putsFrom, Act.put, qA, qB, qC, Nat.zero_add, Nat.reduceAdd])
      generalize u 0 = u0
      generalize u 1 = u1
      generalize u 2 = u2
      generalize u 3 = u3
      generalize u 4 = u4
      ((try simp only [forall_exists_index, and_imp]); intros)
      (try subst u0)
      (try subst u1)
      (try subst u2)
      (try subst u3)
      (try subst u4)
      clear u
      (obtain ⟨ba, bc, hbe, hbo⟩ := (show BytesAt E u4 w6 from by assumption); subst hbe)
      go_wp2_with (first | (go_at_call 45; (with_reducible refine (HCALL.out _ (by assumption)).mono ?_); rintro e wy ⟨vy, rfl, hpy, hby⟩))
      exact ⟨rfl, by (repeat (first | with_reducible exact Below.refl _ _ | ((with_reducible refine Below.alloc1 ?_ ?_ _); (· first | omega | (simp; done) | (simp; omega))) | (with_reducible refine Below.drew ?_) | (with_reducible refine below_drewN' ?_ _) | ((with_reducible refine Below.setCell1 ?_ ?_ _); (· first | omega | (simp; done) | (simp; omega))) | ((with_reducible refine Below.after (by assumption) ?_ ?_); (· first | omega | (simp; done) | (simp; omega))))), by exact ⟨ba, bc, rfl, by assumption⟩⟩
     ·intro u w6 hb6 hd
      obtain ⟨hc6, hf6⟩ := bcell hb6
      (try simp only [qD, qE, qF] at hc6 hf6)
      have hz6 := hb6.size
      (try simp at hz6)
      (try have hy6_0 : w.heap.size < w6.heap.size := by omega)
      (try have hy6_1 : w.heap.size + 1 < w6.heap.size := by omega)
      (try have hy6_2 : w.heap.size + 2 < w6.heap.size := by omega)
      (try have hy6_3 : w.heap.size + 3 < w6.heap.size := by omega)
      (try have hx6_0 : w.heap.size ≤ w6.heap.size := by omega)
      (try have hx6_1 : w.heap.size + 1 ≤ w6.heap.size := by omega)
      (try have hx6_2 : w.heap.size + 2 ≤ w6.heap.size := by omega)
      (try (simp [Region.binds, Note.phi, cellsAre] at hd))
      revert hd
      (try simp only [putsFrom, Act.put, qA, qB, qC, Nat.zero_add, Nat.reduceAdd])
      generalize u 0 = u0
      generalize u 1 = u1
      generalize u 2 = u2
      generalize u 3 = u3
      generalize u 4 = u4
      generalize u 5 = u5
      ((try simp only [forall_exists_index, and_imp]); intros)
      (try subst u0)
      (try subst u1)
      (try subst u2)
      (try subst u3)
      (try subst u4)
      (try subst u5)
      clear u
      (obtain ⟨ba, bc, hbe, hbo⟩ := (show ItemAt (r.last + 1) E u5 w6 from by assumption); subst hbe)
      go_wp2_with (first | (go_at_call 45; (with_reducible refine (HCALL.out _ (by assumption)).mono ?_); rintro e wy ⟨vy, rfl, hpy, hby⟩))
      exact ⟨rfl, by (repeat (first | with_reducible exact Below.refl _ _ | ((with_reducible refine Below.alloc1 ?_ ?_ _); (· first | omega | (simp; done) | (simp; omega))) | (with_reducible refine Below.drew ?_) | (with_reducible refine below_drewN' ?_ _) | ((with_reducible refine Below.setCell1 ?_ ?_ _); (· first | omega | (simp; done) | (simp; omega))) | ((with_reducible refine Below.after (by assumption) ?_ ?_); (· first | omega | (simp; done) | (simp; omega))))), by exact ItemRow.mk' (by assumption)⟩
    ·intro u w6 hb6 hph hap
     obtain ⟨hc6, hf6⟩ := bcell hb6
     (try simp only [qD, qE, qF] at hc6 hf6)
     have hz6 := hb6.size
     (try simp at hz6)
     (try have hy6_0 : w.heap.size < w6.heap.size := by omega)
     (try have hy6_1 : w.heap.size + 1 < w6.heap.size := by omega)
     (try have hy6_2 : w.heap.size + 2 < w6.heap.size := by omega)
     (try have hy6_3 : w.heap.size + 3 < w6.heap.size := by omega)
     (try have hx6_0 : w.heap.size ≤ w6.heap.size := by omega)
     (try have hx6_1 : w.heap.size + 1 ≤ w6.heap.size := by omega)
     (try have hx6_2 : w.heap.size + 2 ≤ w6.heap.size := by omega)
     have hp0 := hph 0 (by simp)
     have hp1 := hph 1 (by simp)
     have hp2 := hph 2 (by simp)
     have hp3 := hph 3 (by simp)
     have hp4 := hph 4 (by simp)
     have hp5 := hph 5 (by simp)
     have hp6 := hph 6 (by simp)
     clear hph hap
     simp only [List.length_cons, List.length_nil, List.take_succ_cons, List.take_zero, List.drop_succ_cons, List.drop_zero, putsFrom, Act.put, qA, qB, qC, Nat.zero_add, Nat.reduceAdd]
     generalize u 0 = u0 at *
     generalize u 1 = u1 at *
     generalize u 2 = u2 at *
     generalize u 3 = u3 at *
     generalize u 4 = u4 at *
     generalize u 5 = u5 at *
     generalize u 6 = u6 at *
     clear u
     cases hp0
     cases hp1
     cases hp2
     cases hp3
     have hp4 : (BytesAt E) u4 w6 := hp4
     have hp5 : (ItemAt (r.last + 1) E) u5 w6 := hp5
     have hp6 : (ItemRow (r.last + 1) E) u6 w6 := hp6
     obtain ⟨B, ba, bc, rfl, hBr, hBo⟩ := hp6
     have hXr := own_stay HX2.out fun g cur _ hc => hb6.block g (Array.getElem?_eq_some_iff.1 hc).1
     have hb56 := HBJ.out.trans (hb6.mono HBJ.out.size)
     obtain ⟨a3, c3, w7, hr7, hO7, hg7⟩ := appI' ⟨r.last + 1, ba, bc, E⟩ HNO.out.symm hXr hBr hb56.size (by omega)
     have hb57 := hb56.grown hg7 hb56.size (fun k hk => (hXr.lt k hk).1)
     have hBo7 := stay_own hBo hXr (by decide) hg7
     have hP7 := HP5.out.below hb57
     obtain ⟨hP8, g8⟩ := set4' hP7 (.slice a3 (j + 1) c3)
     obtain ⟨hP9, g9⟩ := set1' hP8 (.int .i64 (r.last + 1))
     have hg79 := g8.trans g9
     have hQ7 := HQ5.out.below hb57
     have hQ9 := hQ7.other hg79 (Ne.symm hpq)
     have hS7 := HS5.out.below hb57
     have hS8 := hS7.other g8 (Ne.symm hps)
     have hS9 := hS7.other hg79 (Ne.symm hps)
     have hR9 := (HR5.out.below hb57).box hP7 hg79
     have hO9 := own_box hO7 hP7 hg79 (by decide)
     have hBo9 := own_box hBo7 hP7 hg79 (by decide)
     have hb9 := (HB5.out.trans (hb57.mono hz5)).grown hg79 (Nat.le_trans hz5 hb57.size) (fun k hk => by cases hk; exact hpw)
     have hz9 := hb9.size
     have HFIN := hid fun W' (hg : ((w7.setCell ⟨p, 4, none⟩ (.slice a3 (j + 1) c3)).setCell ⟨p, 1, none⟩ (.int .i64 (r.last + 1))).grownBy W' (some q)) => (show D (.returned (.tuple #[.agg #[.int .i64 r.ses, .int .i64 (r.last + 1), .slice r.ma nm r.mc, .int .i64 r.tg, .slice a3 (j + 1) c3, .slice r.ra nr r.rc], .int .i64 (r.last + 1), .int .i64 0])) W' by
      rw [← HD.out, HADD.out]
      have h1 := hR9.box hQ9 hg
      have hl1 : (r.os ++ [(⟨r.last + 1, ba, bc, E⟩ : OItem)]).length = j + 1 := by rw [List.length_append, ← HNO.out]; rfl
      refine ⟨{ r with last := r.last + 1, os := r.os ++ [⟨r.last + 1, ba, bc, E⟩], oa := a3, oc := c3 }, ?_, ⟨h1.mem, ?_, fun o ho => ?_, h1.res⟩, ⟨HI.out.ses, by show r.last + 1 = d.last + 1; rw [HI.out.last], HI.out.ms, HI.out.tg, ?_, HI.out.rs⟩, hb9.grown hg hz9 (fun k hk => by cases hk; exact hqw)⟩
      ·show Ending.returned _ = Ending.returned (.tuple #[.agg (RC.cells _), _, _])
       unfold RC.cells
       simp only
       rw [hl1, HNM.out, HNR.out, HI.out.last]
      ·have := own_le' (own_box hO9 hQ9 hg (by decide)) (Nat.zero_le _)
       show World.ownsRow _ 0 _ 2 (.slice a3 (r.os ++ [(⟨r.last + 1, ba, bc, E⟩ : OItem)]).length c3) (r.os ++ [(⟨r.last + 1, ba, bc, E⟩ : OItem)]).length (iCells (r.os ++ [(⟨r.last + 1, ba, bc, E⟩ : OItem)]))
       rw [hl1]; exact this
      ·rcases List.mem_append.1 ho with ho | ho
       ·exact h1.item o ho
       ·rw [List.mem_singleton.1 ho]
        exact own_box hBo9 hQ9 hg (by decide)
      ·show (r.os ++ [_]).map _ = d.os ++ [_]
       rw [List.map_append, HI.out.os, HI.out.last]; rfl)
     have HP9 := hid hP9; have HQ9 := hid hQ9; have HS9 := hid hS9
     obtain ⟨⟨p0, p1, p2, p3, p4, p5⟩, f0, f1, f2, f3, f4, f5⟩ := hP7.cells
     have hpl7 := hP7.lt
     obtain ⟨t0, t1, t2, t3, t4, t5⟩ := box6 hS7
     have hsl7 := hS7.lt
     have hsp := Ne.symm hps
     have HR7 := hid hr7
     clear hP7 hP8 hP9 g8 g9 hg79 hQ7 hQ9 hS7 hS8 hS9 hR9 hO9 hBo9 hb9 hBo7 hb57 hg7 hO7 hb56 hXr hBo hBr HX2 HCALL x0 x1 x2 x3 x4 x5 z0 z1 z2 z3 z4 z5
     go_upto_region 15 with (at_builtin; refine Lib.wpList_append_run _ rfl _ _ _ _ rfl _ _ rfl rfl _ _ (HR7.out _) ?_)
     clear p0 p1 p2 p3 p4 p5 f0 f1 f2 f3 f4 f5 t0 t1 t2 t3 t4 t5
     generalize (w7.setCell ⟨p, 4, none⟩ (.slice a3 (j + 1) c3)).setCell ⟨p, 1, none⟩ (.int .i64 (r.last + 1)) = W9 at *
     obtain ⟨Y0, hY0⟩ : ∃ Y : World, Y = { W9 with drawn := W9.drawn + 1 } := ⟨_, rfl⟩
     have hg0 : W9.grownBy Y0 none := by rw [hY0]; exact ⟨rfl, rfl, rfl, Nat.le_refl _, fun _ _ _ => rfl⟩
     have hPY : RBox Y0 p #[.int .i64 r.ses, .int .i64 (r.last + 1), .slice r.ma nm r.mc, .int .i64 r.tg, .slice a3 (j + 1) c3, .slice r.ra nr r.rc] := by rw [hY0]; exact HP9.out
     have hQY : RBox Y0 q #[.int .i64 0, .int .i64 0, .slice none 0 0, .int .i64 0, .slice none 0 0, .slice none 0 0] := by rw [hY0]; exact HQ9.out
     have HQY := hid hQY
     have hSY : XBox Y0 s #[.int .i64 r.ses, .int .i64 (r.last + 1), .int .i64 x.s2, .slice x.ra x.rs.length x.rc, .slice x.sa x.ss.length x.sc, .slice x.wa x.ws.length x.wc] := by rw [hY0]; exact HS9.out
     obtain ⟨⟨p0, p1, p2, p3, p4, p5⟩, f0, f1, f2, f3, f4, f5⟩ := hPY.cells
     have hpy := hPY.lt
     have HC0 := hid (box6 hSY).2.1
     have hset := set6 hQY (.int .i64 r.ses) (.int .i64 (r.last + 1)) (.slice r.ma nm r.mc) (.int .i64 r.tg) (.slice a3 (j + 1) c3) (.slice r.ra nr r.rc)
     have HC1 := hid (box6 (hSY.other hset.2 hsq)).2.1
     have hgF : W9.grownBy _ (some q) := (show W9.grownBy Y0 (some q) from ⟨hg0.os, hg0.tape, hg0.output, hg0.size, fun k hk _ => hg0.block k hk (by simp)⟩).trans hset.2
     have HEND := hid (HFIN.out _ hgF)
     have HY0 := hid hY0
     clear hset hgF hSY hQY hPY hg0 HFIN hY0
     refine wp_region_inv (RetR Y0 ((((((Y0.setCell ⟨q, 0, none⟩ (.int .i64 r.ses)).setCell ⟨q, 1, none⟩ (.int .i64 (r.last + 1))).setCell ⟨q, 2, none⟩ (.slice r.ma nm r.mc)).setCell ⟨q, 3, none⟩ (.int .i64 r.tg)).setCell ⟨q, 4, none⟩ (.slice a3 (j + 1) c3)).setCell ⟨q, 5, none⟩ (.slice r.ra nr r.rc)) (.agg #[.int .i64 r.ses, .int .i64 (r.last + 1), .slice r.ma nm r.mc, .int .i64 r.tg, .slice a3 (j + 1) c3, .slice r.ra nr r.rc]) s (r.last + 1)) (fun _ _ => False) rfl (by kernel_rfl) (by kernel_rfl) ⟨HY0.out.symm, fun h => (by cases h), fun h => (by cases h), fun h => (by cases h), fun h => (by cases h), fun h => (by cases h)⟩ ?_ ?_ ?_
     ·simp only [StepsI, List.nil_append, List.cons_append, Nat.zero_add, Nat.reduceAdd]
      refine ⟨?p0, ?p1, ?p2, ?p3, ?p4, ?p5, trivial⟩
      case p0 =>
       intro L u X hdep hlat hLi hx
       have hX := hx.w
       have HXX := hid hx
       rw [hlat 3 (by decide +kernel)] at hX
       simp only [Bool.false_eq_true, if_false] at hX
       subst hX
       generalize hR : (fun v w' => RetR _ _ _ _ _ (setI L _) (setU u _ (gotI _ v)) w') = RR
       have HR := hid hR
       clear hR hx hdep hlat
       simp only [putsFrom, Act.put, qA, qB, qC, Nat.zero_add, Nat.reduceAdd]
       go_wp2_with fail
       have hR := HR.out
       subst hR
       exact ⟨rfl, HXX.out.pure 0 _ (by omega) (fun e => by rfl) (fun e => by omega) (fun e => by omega) (fun e => by omega) (fun e => by omega)⟩
      case p1 =>
       intro L u X hdep hlat hLi hx
       have hX := hx.w
       have HXX := hid hx
       clear hX
       generalize hR : (fun v w' => RetR _ _ _ _ _ (setI L _) (setU u _ (gotI _ v)) w') = RR
       have HR := hid hR
       clear hR hx hdep hlat
       simp only [putsFrom, Act.put, qA, qB, qC, Nat.zero_add, Nat.reduceAdd]
       go_wp2_with fail
       have hR := HR.out
       subst hR
       exact ⟨rfl, HXX.out.pure 1 _ (by omega) (fun e => by omega) (fun e => by rfl) (fun e => by omega) (fun e => by omega) (fun e => by omega)⟩
      case p2 =>
       intro L u X hdep hlat hLi hx
       have hX := hx.w
       have HXX := hid hx
       have hc1 : X.cell? ⟨s, 1, none⟩ = some (.int .i64 (r.last + 1)) := by rw [hX]; cases L 3; exact HC0.out; exact HC1.out
       clear hX
       have e1 := hx.v1 (hdep 1 (by decide +kernel))
       generalize hR : (fun v w' => RetR _ _ _ _ _ (setI L _) (setU u _ (gotI _ v)) w') = RR
       have HR := hid hR
       clear hR hx hdep hlat
       simp only [putsFrom, Act.put, qA, qB, qC, Nat.zero_add, Nat.reduceAdd]
       simp only [e1]
       clear e1
       go_wp2_with fail
       have hR := HR.out
       subst hR
       exact ⟨rfl, HXX.out.pure 2 _ (by omega) (fun e => by omega) (fun e => by omega) (fun e => by rfl) (fun e => by omega) (fun e => by omega)⟩
      case p3 =>
       intro L u X hdep hlat hLi hx
       have hX := hx.w
       have HXX := hid hx
       rw [hLi] at hX
       simp only [Bool.false_eq_true, if_false] at hX
       subst hX
       obtain ⟨⟨q0, q1, q2, q3, q4, q5⟩, e0', e1', e2', e3', e4', e5'⟩ := HQY.out.cells
       have hqy := HQY.out.lt
       have e0 := hx.v0 (hdep 0 (by decide +kernel))
       generalize hR : (fun v w' => RetR _ _ _ _ _ (setI L _) (setU u _ (gotI _ v)) w') = RR
       have HR := hid hR
       clear hR hx hdep hlat
       simp only [putsFrom, Act.put, qA, qB, qC, Nat.zero_add, Nat.reduceAdd]
       simp only [e0]
       clear e0
       go_wp2_with fail
       have hR := HR.out
       subst hR
       exact ⟨rfl, HXX.out.store⟩
      case p4 =>
       intro L u X hdep hlat hLi hx
       have hX := hx.w
       have HXX := hid hx
       clear hX
       have e2 := hx.v2 (hdep 2 (by decide +kernel))
       generalize hR : (fun v w' => RetR _ _ _ _ _ (setI L _) (setU u _ (gotI _ v)) w') = RR
       have HR := hid hR
       clear hR hx hdep hlat
       simp only [putsFrom, Act.put, qA, qB, qC, Nat.zero_add, Nat.reduceAdd]
       simp only [e2]
       clear e2
       go_wp2_with fail
       have hR := HR.out
       subst hR
       exact ⟨rfl, HXX.out.pure 4 _ (by omega) (fun e => by omega) (fun e => by omega) (fun e => by omega) (fun e => by rfl) (fun e => by omega)⟩
      case p5 =>
       intro L u X hdep hlat hLi hx
       have hX := hx.w
       have HXX := hid hx
       clear hX
       generalize hR : (fun v w' => RetR _ _ _ _ _ (setI L _) (setU u _ (gotI _ v)) w') = RR
       have HR := hid hR
       clear hR hx hdep hlat
       simp only [putsFrom, Act.put, qA, qB, qC, Nat.zero_add, Nat.reduceAdd]
       go_wp2_with fail
       have hR := HR.out
       subst hR
       exact ⟨rfl, HXX.out.pure 5 _ (by omega) (fun e => by omega) (fun e => by omega) (fun e => by omega) (fun e => by omega) (fun e => by rfl)⟩
     ·intro L u X hall hx
      have hX := hx.w
      rw [hall 3 (by decide)] at hX
      simp only [if_true] at hX
      have e0 := hx.v0 (hall 0 (by decide))
      have e1 := hx.v1 (hall 1 (by decide))
      have e2 := hx.v2 (hall 2 (by decide))
      have e4 := hx.v4 (hall 4 (by decide))
      have e5 := hx.v5 (hall 5 (by decide))
      simp only [putsFrom, Act.put, qA, qB, qC, Nat.zero_add, Nat.reduceAdd]
      simp only [e0, e1, e2, e4, e5]
      clear e0 e1 e2 e4 e5 hx hall
      subst hX
      obtain ⟨⟨q0, q1, q2, q3, q4, q5⟩, e0', e1', e2', e3', e4', e5'⟩ := HQY.out.cells
      have hqy := HQY.out.lt
      go_wp2_with fail
      refine bodyPost_ret (v := .tuple #[.agg #[.int .i64 r.ses, .int .i64 (r.last + 1), .slice r.ma nm r.mc, .int .i64 r.tg, .slice a3 (j + 1) c3, .slice r.ra nr r.rc], .int .i64 (r.last + 1), .int .i64 0]) (by simp [results, Tryz.results16, go_sem, *]) rfl ?_
      exact HEND.out
     ·exact fun _ _ _ _ hx => hx.elim
end Go.Proofs.YtekmadgacepdfaaGreat.U
