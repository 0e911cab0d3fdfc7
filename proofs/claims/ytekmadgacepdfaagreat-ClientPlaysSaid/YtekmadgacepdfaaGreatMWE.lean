/- Several texts as one: WE UQ WF. -/
import Derived.Test.YtekmadgacepdfaaGreatQ0
import Derived.Test.YtekmadgacepdfaaGreatWD
import Derived.Test.YtekmadgacepdfaaGreatMUO
import Derived.Test.YtekmadgacepdfaaGreatMPE
import Derived.Deep.CutBlock
namespace Go.Proofs.YtekmadgacepdfaaGreat.U
set_option linter.unusedVariables false
open Go.RowKit Fl Go.Maps
open Go.Proofs.YtekmadgacepdfaaGreat.K (Fits)
open Go.Proofs.YtekmadgacepdfaaGreat.P (bCells)
set_option linter.unusedSimpArgs false

theorem CAt.dok {B p : Nat} {c : CL} {w : World} (h : CAt B p c w) (hu : c.d.ms.Pairwise (· < ·)) : DOk c.d := by
 refine ⟨h.tgt, h.ring.1, hu, h.last, fun o ho => ?_, by have := h.many; simpa [CL.d] using this⟩
 obtain ⟨x, hx, rfl⟩ := List.mem_map.1 ho
 exact h.num x hx
theorem add_ms (d : CD) (x : SubV) : (addD d x).1.ms = d.ms := by
 unfold addD
 split
 ·rfl
 ·split <;> rfl
theorem heard_ms (d : CD) (seq code num e lead : Int) : (heardD d seq code num e lead).ms = d.ms := by
 unfold heardD
 split
 ·rfl
 ·split
  ·rfl
  ·split
   ·rfl
   ·split <;> rfl
theorem RBox.fr {w w' : World} {p : Nat} {cs : Array Value} (h : RBox w p cs) (hf : FrC w w') : RBox w' p cs := hf p _ h ⟨by decide, by decide⟩
structure Both (B p q : Nat) (cl : CL) (r : RC) (w : World) : Prop where
 cat : CAt B p cl w
 box : RBox w q r.cells
 rat : RCAt w r
 is : RIs r cl.d
 up : cl.d.ms.Pairwise (· < ·)
theorem Both.below {B p q : Nat} {cl : CL} {r : RC} {w w' : World} (h : Both B p q cl r w) (hb : Below w.heap.size w w') : Both B p q cl r w' :=
 ⟨h.cat.below hb, h.box.below hb, h.rat.below hb, h.is, h.up⟩
theorem CAt.rbox {B p q : Nat} {c : CL} {w w' : World} {cs : Array Value} (h : CAt B p c w) (hq : RBox w q cs) (hg : w.grownBy w' (some q)) : CAt B p c w' := by
 have hne : ∀ T, T ≠ 30 → ∀ cur, w.heap[q]? ≠ some (.cells cur T (0, 0)) := fun T hT cur he => by
  unfold RBox at hq
  rw [hq] at he
  simp only [Option.some.injEq, Obj.cells.injEq] at he
  exact hT he.2.1.symm
 refine ⟨?_, h.hp, stay_of h.mem hg (hne _ (by decide)), ?_, h.hm, fun o ho => stay_of (h.item o ho) hg (hne _ (by decide)), h.byte, h.rise, h.num, h.last, stay_of h.res hg (hne _ (by decide)), h.many, h.tgt, h.ring, h.ses⟩
 ·exact (hg.block p h.lt fun he => by
   have he := Option.some.inj he
   exact hne _ (by decide) _ (he ▸ h.box)).trans h.box
 ·refine map_stay h.map (hg.block _ h.map.lt fun he => ?_)
  have he := Option.some.inj he
  obtain ⟨es, clock, hb, _⟩ := h.map
  unfold RBox at hq
  rw [he, hq] at hb
  cases hb
theorem next_u (B p : Nat) (cl : CL) (w : World) (h : CAt B p cl w) :
  Calls Tryz.prog 19 #[.pointer (some ⟨p, 0, none⟩)] w fun e w' => Below w.heap.size w w' ∧ ∃ ok tv bs a c, e = .returned (.tuple #[.int .i64 tv, .slice a bs.length c, .bool ok]) ∧ w'.ownsRow w.heap.size 5 1 (.slice a bs.length c) bs.length (bCells bs) ∧
   ((cl.os = [] ∧ ok = false ∧ tv = 0 ∧ bs = []) ∨ ∃ o os, cl.os = o :: os ∧ ok = true ∧ tv = cl.target ∧ bs = o.bs) := by
 refine (next_any' B p cl w h).mono ?_
 rintro e w' ⟨hb, hr⟩
 cases hos : cl.os with
 | nil =>
  rw [hos] at hr
  exact ⟨hb, false, 0, [], none, 0, hr, World.ownsRow_nil _ _ _ _, .inl ⟨rfl, rfl, rfl, rfl⟩⟩
 | cons o os =>
  rw [hos] at hr
  obtain ⟨a, cc, he, ho⟩ := hr
  exact ⟨hb, true, cl.target, o.bs, a, cc, he, ho, .inr ⟨o, os, rfl, rfl, rfl, rfl⟩⟩
theorem setBy {w : World} {B g n c k : Nat} {L : List Nat} (hL : L.length = n) (h : w.ownsRow B 5 1 (.slice (some ⟨g, 0, none⟩) n c) n (bCells L)) (hk : k < n) :
  (∃ v, w.cell? ⟨g, k, none⟩ = some v) ∧ w.frozen? ⟨g, k, none⟩ = false ∧ (w.setCell ⟨g, k, none⟩ (.int .u8 99)).ownsRow B 5 1 (.slice (some ⟨g, 0, none⟩) n c) n (bCells (L.set k 99)) ∧ w.grownBy (w.setCell ⟨g, k, none⟩ (.int .u8 99)) (some g) := by
 have hkl : k < L.length := by omega
 have hc := h.cells (g := g) rfl k (.int .u8 (L[k] : Nat)) (by unfold bCells; rw [List.getElem?_map, List.getElem?_eq_getElem hkl]; rfl)
 rw [Go.Proofs.YtekmadgacepdfaaGreat.K.addr0] at hc
 rcases h.2 with ⟨h1, _⟩ | ⟨g', cap, cur, h1, h2, hb, h4, h5, h6, h7⟩
 ·cases h1
 injection h1 with ha _ hcap
 injection ha with ha
 injection ha with ha
 subst ha; subst hcap
 have hset := Go.Proofs.YtekmadgacepdfaaGreat.K.set1 (i := k) hb (Value.int IntKind.u8 99)
 refine ⟨⟨_, hc⟩, by rw [World.frozen?]; simp [hb], ⟨by unfold bCells; rw [List.length_map, List.length_set, hL, Nat.mul_one], .inr ⟨g, c, _, rfl, h2, hset.1, h4, h5, by simpa using h6, ?_⟩⟩, hset.2⟩
 unfold bCells at h7 ⊢
 rw [List.map_set, ← h7]
 simp [List.take_set]
theorem RIs.len {r : RC} {d : CD} (h : RIs r d) : r.os.length = d.os.length := by rw [← h.os, List.length_map]
end Go.Proofs.YtekmadgacepdfaaGreat.U
namespace Go.Proofs.YtekmadgacepdfaaGreat.U
set_option linter.unusedVariables false
open Go.RowKit Fl
set_option linter.unusedSimpArgs false

theorem pick_rise (ms : List Int) : ∀ n, (pick ms n).Pairwise (· < ·)
 | 0 => List.Pairwise.nil
 | n + 1 => by
  unfold pick
  split
  ·rw [List.pairwise_append]
   exact ⟨pick_rise ms n, List.pairwise_singleton _ _, fun a ha b hb => by
    rw [List.mem_singleton.1 hb]
    have := (pick_mem ms n a ha).2
    omega⟩
  ·exact pick_rise ms n
theorem ring_rise (ms : List Int) : (ring ms).Pairwise (· < ·) := by
 unfold ring
 split
 ·exact List.pairwise_singleton _ _
 ·exact pick_rise ms 7
end Go.Proofs.YtekmadgacepdfaaGreat.U
namespace Go.Proofs.YtekmadgacepdfaaGreat.U
set_option linter.unusedVariables false
open Go.RowKit Fl Go.Maps
open Go.Proofs.YtekmadgacepdfaaGreat.K (Fits)
open Go.Proofs.YtekmadgacepdfaaGreat.P (bCells BAt sameB_any)
set_option linter.unusedSimpArgs false

theorem own_bat' {w : World} {B n c : Nat} {a : Option Addr} {l : List Nat} (hn : l.length = n) (h : w.ownsRow B 5 1 (.slice a n c) n (bCells l)) (hl : ∀ x ∈ l, x < 256) (hm : n ≤ 17592186044416) : BAt w a l := P.own_bat hn h hm hl
set_option maxHeartbeats 8000000 in
set_option maxRecDepth 100000 in
theorem clientPlays_walk (ses : Int) (am : Option Addr) (cm : Nat) (ms : List Int) (a : Option Addr) (c0 : Nat) (ops : List OpV) (w : World) (hs : -9223372036854775808 ≤ ses ∧ ses ≤ 9223372036854775807) (hm : ZAt w am ms) (h : OAt w a ops) :
  Calls Tryz.prog 3 #[.int .i64 ses, .slice am ms.length cm, .slice a ops.length c0] w (Ret (.bool true) w) := by
 have HM := hid h
 have hlen := h.len
 have HN1 := hid fun W (hb : Below w.heap.size w W) => new_any ses am cm _ ms W rfl (hm.below hb) hs
 have HN2 := hid fun W (hb : Below w.heap.size w W) => refNew21_any ses am cm _ ms W rfl (hm.below hb)
 have HUP0 := hid (ring_rise ms)
 clear h hm hs
 generalize hml : ops.length = mlen at *
 have HML := hid hml
 clear hml
 generalize ms.length = nms at *
 go_enter Tryz.func3, Tryz.ntmps3
 go_wp2_with fail
 refine (HN1.out w (Below.refl _ _)).mono ?_
 rintro e w1 ⟨hb1, p, c, rfl, hC, hd⟩
 have HC := hid hC; have HD := hid hd
 have hsz1 := hb1.size
 clear hC hd HN1
 go_upto_region 4 with (go_at_call 13; (with_reducible refine (alive21_any _).mono ?_); rintro e w2 ⟨rfl, hb2⟩; obtain ⟨hc2, hf2⟩ := bcell hb2; (try simp only [qD, qE, qF] at hc2 hf2); have hz2 := hb2.size; (try simp at hz2); (try have hy2_0 : w.heap.size < w2.heap.size := by omega); (try have hy2_1 : w.heap.size + 1 < w2.heap.size := by omega); (try have hy2_2 : w.heap.size + 2 < w2.heap.size := by omega); (try have hy2_3 : w.heap.size + 3 < w2.heap.size := by omega); (try have hx2_0 : w.heap.size ≤ w2.heap.size := by omega); (try have hx2_1 : w.heap.size + 1 ≤ w2.heap.size := by omega); (try have hx2_2 : w.heap.size + 2 ≤ w2.heap.size := by omega))
 have hb02 : Below w.heap.size w w2 := hb1.trans (hb2.mono hsz1)
 have HC2 := hid (HC.out.below hb2)
 clear hb1 hb2 HC hsz1 hc2 hf2
 go_wp2_with fail
 refine (HN2.out w2 hb02).mono ?_
 rintro e w3 ⟨r, rfl, hR3, hI3, hb3⟩
 have hsz2 := hb02.size
 have hb03 := hb02.trans (hb3.mono hsz2)
 have hC3 := HC2.out.below hb3
 have hba : Below w3.heap.size w3 (w3.alloc (.cells r.cells 30)) := Below.alloc1 (Nat.le_refl _) (Below.refl _ _) _
 have HB0 : Hid (Both w.heap.size p w3.heap.size c r (w3.alloc (.cells r.cells 30))) := hid ⟨hC3.below hba, heap_alloc_new w3 _, hR3.below hba, by rw [HD.out]; exact hI3, by rw [HD.out]; exact HUP0.out⟩
 have hb04 := hb03.trans (hba.mono hb03.size)
 have hsz3 := hb03.size
 clear HN2 hR3 hI3 hb3 hC3 HC2 hba HD HUP0 hb02 hsz2
 unfold RC.cells at HB0 hb04
 simp only [RC.cells]
 go_upto_region 6 with fail
 generalize w3.alloc (.cells #[.int .i64 r.ses, .int .i64 r.last, .slice r.ma r.ms.length r.mc, .int .i64 r.tg, .slice r.oa r.os.length r.oc, .slice r.ra r.rs.length r.rc] 30) = w4 at *
 have hqB : w.heap.size ≤ w3.heap.size := hsz3
 generalize w3.heap.size = q at *
 clear hb03 hsz3
 go_loopw [38] (fun t38 wr => ∃ (i : Nat) (cl : CL) (r : RC), t38 = .int .i64 (i : Nat) ∧ i ≤ mlen ∧ Hid (Both w.heap.size p q cl r wr) ∧ Below w.heap.size w wr) (fun t38 _ => mlen - (intOf t38).toNat)
 case atStart => exact ⟨0, c, r, rfl, Nat.zero_le _, HB0, hb04⟩
 case round =>
  obtain ⟨i, cl, r, rfl, hi, HB, hbw⟩ := hrel
  clear HB0 hb04
  have hzw := hbw.size
  by_cases hlt : i < mlen
  ·have hlt' : (i : Int) < (mlen : Int) := by omega
   have him : i < ops.length := by rw [HML.out]; exact hlt
   have hO := HM.out.below hbw
   rcases hO.row with h0 | ⟨gb, o, ha, hbl, hcl⟩
   ·rw [h0] at him; simp at him
   subst ha
   have hcl := hcl i him
   have HS := hid fun W (hb : Below w.heap.size w W) => (HM.out.below hb).sub i him
   have HN := hid (hO.num i him)
   clear hO
   generalize ops[i]?.getD default = op at *
   have k0 : wr.cell? ⟨gb, o + i * 12, none⟩ = some (.int .i64 op.kind) := hcl 0 _ rfl
   have k1 := hcl 1 _ rfl
   have k2 := hcl 2 _ rfl
   have k3 := hcl 3 _ rfl
   have k4 := hcl 4 _ rfl
   have k5 := hcl 5 _ rfl
   have k6 := hcl 6 _ rfl
   have k7 := hcl 7 _ rfl
   have k8 := hcl 8 _ rfl
   have k9 := hcl 9 _ rfl
   have k10 := hcl 10 _ rfl
   have k11 := hcl 11 _ rfl
   clear hcl
   have hbo : Below wr.heap.size wr (wr.alloc (.cells (encOp op).toArray 40 (0, 0))) := Below.alloc1 (Nat.le_refl _) (Below.refl _ _) _
   have HOB : Hid ((wr.alloc (.cells (encOp op).toArray 40 (0, 0))).heap[wr.heap.size]? = some (.cells (encOp op).toArray 40 (0, 0))) := hid (heap_alloc_new wr _)
   have HB1 := hid (HB.out.below hbo)
   have hbw1 := hbw.trans (hbo.mono hzw)
   have hW5 : wr.alloc (.cells (encOp op).toArray 40 (0, 0)) = wr.alloc (.cells #[.int .i64 op.kind, .int .i64 op.s.s0, .int .i64 op.s.s1, .int .i64 op.s.s2, .slice op.s.ra op.s.rs.length op.s.rc, .slice op.s.sa op.s.ss.length op.s.sc, .slice op.s.wa op.s.ws.length op.s.wc, .int .i64 op.seq, .int .i64 op.code, .int .i64 op.num, .int .i64 op.e, .int .i64 op.lead] 40) := rfl
   rw [hW5] at HOB HB1 hbw1
   clear hW5 hbo HB
   go_upto_region 8 with fail
   clear k0 k1 k2 k3 k4 k5 k6 k7 k8 k9 k10 k11
   generalize wr.alloc (.cells #[.int .i64 op.kind, .int .i64 op.s.s0, .int .i64 op.s.s1, .int .i64 op.s.s2, .slice op.s.ra op.s.rs.length op.s.rc, .slice op.s.sa op.s.ss.length op.s.sc, .slice op.s.wa op.s.ws.length op.s.wc, .int .i64 op.seq, .int .i64 op.code, .int .i64 op.num, .int .i64 op.e, .int .i64 op.lead] 40) = w5 at *
   generalize wr.heap.size = P at *
   clear hbw hzw hbl
   have opc : ∀ (W : World), W.heap[P]? = some (.cells (encOp op).toArray 40 (0, 0)) → ∀ t v, (encOp op)[t]? = some v → W.cell? ⟨P, t, none⟩ = some v := fun _ h t v hv => by
    rw [cell_of_row _ P t _ _ (0, 0) h, List.getElem?_toArray]; exact hv
   have HOPC := hid opc
   have hk := opc _ HOB.out
   have hPl := (Array.getElem?_eq_some_iff.1 HOB.out).1
   have k0 : w5.cell? ⟨P, 0, none⟩ = some (.int .i64 op.kind) := hk 0 _ rfl
   have k1 := hk 1 _ rfl
   have k2 := hk 2 _ rfl
   have k3 := hk 3 _ rfl
   have k4 := hk 4 _ rfl
   have k5 := hk 5 _ rfl
   have k6 := hk 6 _ rfl
   have k7 := hk 7 _ rfl
   have k8 := hk 8 _ rfl
   have k9 := hk 9 _ rfl
   have k10 := hk 10 _ rfl
   have k11 := hk 11 _ rfl
   clear opc hk
   have hz5 := hbw1.size
   go_upto_block 2 with fail
   go_cut [11, 12, 13, 14, 15, 38] from 38 to 181 (fun _ _ _ _ _ t38 wc => t38 = .int .i64 (i : Nat) ∧ ∃ (cl' : CL) (r' : RC), Hid (Both w.heap.size p q cl' r' wc) ∧ Below w.heap.size w wc)
   case first =>
    by_cases h1 : op.kind = 1
    ·have hg1 : (op.kind == 1) = true := by simpa using h1
     clear h1
     obtain ⟨hx5, hfit⟩ := HS.out w5 hbw1
     have HADD := hid (add_any w.heap.size p cl op.s w5 HB1.out.cat hx5 hfit)
     have HFIT := hid hfit
     clear hx5 hfit
     go_wp2_with fail
     refine HADD.out.mono ?_
     rintro e w6 ⟨rfl, ⟨hb6, hf6⟩, c6, hC6, hd6, -⟩
     have hbw6 := hbw1.trans hb6
     have HOB6 := hf6 P _ HOB.out ⟨by decide, by decide⟩
     have HRB6 := hid (HB1.out.box.fr hf6)
     have HR6 := hid (HB1.out.rat.fr hf6)
     have hk := HOPC.out _ HOB6
     have hx6 := (HS.out w6 hbw6).1
     have HREF := hid (refAdd_any r cl.d op.s w6 HR6.out HB1.out.is (HB1.out.cat.dok HB1.out.up) hx6 HFIT.out)
     have k1 : w6.cell? ⟨P, 1, none⟩ = _ := hk 1 _ rfl
     have k2 := hk 2 _ rfl
     have k3 := hk 3 _ rfl
     have k4 := hk 4 _ rfl
     have k5 := hk 5 _ rfl
     have k6 := hk 6 _ rfl
     have hPl6 := (Array.getElem?_eq_some_iff.1 HOB6).1
     obtain ⟨⟨p0, p1, p2, p3, p4, p5⟩, -⟩ := (show RBox w6 q #[.int .i64 r.ses, .int .i64 r.last, .slice r.ma r.ms.length r.mc, .int .i64 r.tg, .slice r.oa r.os.length r.oc, .slice r.ra r.rs.length r.rc] from HRB6.out).cells
     have hql6 := HRB6.out.lt
     have hz6 := hbw6.size
     have HC6 := hid hC6; have HD6 := hid hd6
     have HUP6 : Hid (c6.d.ms.Pairwise (· < ·)) := hid (by rw [hd6, add_ms]; exact HB1.out.up)
     have HBW6 := hid hbw6
     obtain ⟨R2, hR2⟩ : ∃ R2, R2 = addD cl.d op.s := ⟨_, rfl⟩
     rw [← hR2] at HREF HD6 ⊢
     clear hk hx6 HOB6 hC6 hd6 hb6 hf6 k0 k7 k8 k9 k10 k11 HADD hR2 HB1 hbw1 hz5 hPl hbw6 HOB HFIT
     obtain ⟨D, m, ee⟩ := R2
     simp only
     go_wp2_with fail
     refine HREF.out.mono ?_
     rintro e w7 ⟨r', rfl, hR7, hI7, hb7⟩
     simp only [RC.cells]
     have hRB7 := HRB6.out.below hb7
     have hC7 := HC6.out.below hb7
     have hbw7 := HBW6.out.trans (hb7.mono hz6)
     have hql7 := hRB7.lt
     have hal : Below w7.heap.size w7 (w7.alloc (.cells #[.int .i64 r'.ses, .int .i64 r'.last, .slice r'.ma r'.ms.length r'.mc, .int .i64 r'.tg, .slice r'.oa r'.os.length r'.oc, .slice r'.ra r'.rs.length r'.rc] 30)) := Below.alloc1 (Nat.le_refl _) (Below.refl _ _) _
     have HRB8 := hid (show RBox _ q #[.int .i64 r.ses, .int .i64 r.last, .slice r.ma r.ms.length r.mc, .int .i64 r.tg, .slice r.oa r.os.length r.oc, .slice r.ra r.rs.length r.rc] from hRB7.below hal)
     have HNB8 : Hid (RBox (w7.alloc (.cells #[.int .i64 r'.ses, .int .i64 r'.last, .slice r'.ma r'.ms.length r'.mc, .int .i64 r'.tg, .slice r'.oa r'.os.length r'.oc, .slice r'.ra r'.rs.length r'.rc] 30)) w7.heap.size #[.int .i64 r'.ses, .int .i64 r'.last, .slice r'.ma r'.ms.length r'.mc, .int .i64 r'.tg, .slice r'.oa r'.os.length r'.oc, .slice r'.ra r'.rs.length r'.rc]) := hid (heap_alloc_new w7 _)
     have HC8 := hid (hC7.below hal); have HR8 := hid (hR7.below hal)
     have HW8 := hid (hbw7.trans (hal.mono hbw7.size))
     obtain ⟨⟨q0, q1, q2, q3, q4, q5⟩, g0, g1, g2, g3, g4, g5⟩ := (show RBox w7 q #[.int .i64 r.ses, .int .i64 r.last, .slice r.ma r.ms.length r.mc, .int .i64 r.tg, .slice r.oa r.os.length r.oc, .slice r.ra r.rs.length r.rc] from hRB7).cells
     have HI7 := hid hI7
     clear hRB7 hC7 hbw7 hal hR7 hI7 hb7 HREF HRB6 HR6 HC6 HBW6 p0 p1 p2 p3 p4 p5 k1 k2 k3 k4 k5 k6 hPl6 hql6 hz6
     go_upto_region 12 with fail
     clear q0 q1 q2 q3 q4 q5 g0 g1 g2 g3 g4 g5 hql7
     generalize w7.alloc (.cells #[.int .i64 r'.ses, .int .i64 r'.last, .slice r'.ma r'.ms.length r'.mc, .int .i64 r'.tg, .slice r'.oa r'.os.length r'.oc, .slice r'.ra r'.rs.length r'.rc] 30) = w8 at *
     generalize w7.heap.size = N at *
     have hset := set6 HRB8.out (.int .i64 r'.ses) (.int .i64 r'.last) (.slice r'.ma r'.ms.length r'.mc) (.int .i64 r'.tg) (.slice r'.oa r'.os.length r'.oc) (.slice r'.ra r'.rs.length r'.rc)
     have HFB := hid (show Both w.heap.size p q c6 r' _ from ⟨HC8.out.rbox HRB8.out hset.2, hset.1, HR8.out.box HRB8.out hset.2, by rw [HD6.out]; exact HI7.out, HUP6.out⟩)
     have HFW := hid (HW8.out.grown hset.2 HW8.out.size (fun k hk => by cases hk; exact hqB))
     obtain ⟨⟨q0, q1, q2, q3, q4, q5⟩, g0, g1, g2, g3, g4, g5⟩ := HRB8.out.cells
     obtain ⟨⟨n0, n1, n2, n3, n4, n5⟩, -⟩ := HNB8.out.cells
     have hql8 := HRB8.out.lt
     have hnl8 := HNB8.out.lt
     clear hset HRB8 HNB8 HC8 HR8 HW8 HI7 HD6 HUP6
     go_upto_region 13 with fail
     clear q0 q1 q2 q3 q4 q5 g0 g1 g2 g3 g4 g5 n0 n1 n2 n3 n4 n5 hql8 hnl8
     generalize (((((w8.setCell ⟨q, 0, none⟩ (.int .i64 r'.ses)).setCell ⟨q, 1, none⟩ (.int .i64 r'.last)).setCell ⟨q, 2, none⟩ (.slice r'.ma r'.ms.length r'.mc)).setCell ⟨q, 3, none⟩ (.int .i64 r'.tg)).setCell ⟨q, 4, none⟩ (.slice r'.oa r'.os.length r'.oc)).setCell ⟨q, 5, none⟩ (.slice r'.ra r'.rs.length r'.rc) = w9 at *
     go_wp2_with fail
     go_meet
     case rel => exact ⟨rfl, c6, r', HFB, HFW.out⟩
    ·have hg1 : (op.kind == 1) = false := by simpa using h1
     clear h1
     by_cases h2 : op.kind = 2
     ·have hg2 : (op.kind == 2) = true := by simpa using h2
      clear h2
      have HHEA := hid (heard_any w.heap.size p cl op.seq op.code op.num op.e op.lead w5 HB1.out.cat HN.out)
      go_wp2_with fail
      refine HHEA.out.mono ?_
      rintro e w6 ⟨rfl, ⟨hb6, hf6⟩, c6, hC6, hd6, -⟩
      have hbw6 := hbw1.trans hb6
      have HOB6 := hf6 P _ HOB.out ⟨by decide, by decide⟩
      have HRB6 := hid (HB1.out.box.fr hf6)
      have HR6 := hid (HB1.out.rat.fr hf6)
      have hk := HOPC.out _ HOB6
      have HREF := hid (refHeard_any r cl.d op.seq op.code op.num op.e op.lead w6 HR6.out HB1.out.is (HB1.out.cat.dok HB1.out.up))
      have k7 : w6.cell? ⟨P, 7, none⟩ = _ := hk 7 _ rfl
      have k8 := hk 8 _ rfl
      have k9 := hk 9 _ rfl
      have k10 := hk 10 _ rfl
      have k11 := hk 11 _ rfl
      have hPl6 := (Array.getElem?_eq_some_iff.1 HOB6).1
      obtain ⟨⟨p0, p1, p2, p3, p4, p5⟩, -⟩ := (show RBox w6 q #[.int .i64 r.ses, .int .i64 r.last, .slice r.ma r.ms.length r.mc, .int .i64 r.tg, .slice r.oa r.os.length r.oc, .slice r.ra r.rs.length r.rc] from HRB6.out).cells
      have hql6 := HRB6.out.lt
      have hz6 := hbw6.size
      have HC6 := hid hC6; have HD6 := hid hd6
      have HUP6 : Hid (c6.d.ms.Pairwise (· < ·)) := hid (by rw [hd6, heard_ms]; exact HB1.out.up)
      have HBW6 := hid hbw6
      clear hk HOB6 hC6 hd6 hb6 hf6 k0 k1 k2 k3 k4 k5 k6 HHEA HB1 hbw1 hz5 hPl hbw6 HOB
      go_wp2_with fail
      refine HREF.out.mono ?_
      rintro e w7 ⟨r', rfl, hR7, hI7, hb7⟩
      simp only [RC.cells]
      have hRB7 := HRB6.out.below hb7
      have hC7 := HC6.out.below hb7
      have hbw7 := HBW6.out.trans (hb7.mono hz6)
      have hql7 := hRB7.lt
      have hset := set6 (show RBox _ q #[.int .i64 r.ses, .int .i64 r.last, .slice r.ma r.ms.length r.mc, .int .i64 r.tg, .slice r.oa r.os.length r.oc, .slice r.ra r.rs.length r.rc] from hRB7) (.int .i64 r'.ses) (.int .i64 r'.last) (.slice r'.ma r'.ms.length r'.mc) (.int .i64 r'.tg) (.slice r'.oa r'.os.length r'.oc) (.slice r'.ra r'.rs.length r'.rc)
      have HFB := hid (show Both w.heap.size p q c6 r' _ from ⟨hC7.rbox hRB7 hset.2, hset.1, hR7.box hRB7 hset.2, by rw [HD6.out]; exact hI7, HUP6.out⟩)
      have HFW := hid (hbw7.grown hset.2 hbw7.size (fun k hk => by cases hk; exact hqB))
      obtain ⟨⟨q0, q1, q2, q3, q4, q5⟩, g0, g1, g2, g3, g4, g5⟩ := (show RBox w7 q #[.int .i64 r.ses, .int .i64 r.last, .slice r.ma r.ms.length r.mc, .int .i64 r.tg, .slice r.oa r.os.length r.oc, .slice r.ra r.rs.length r.rc] from hRB7).cells
      clear hRB7 hC7 hbw7 hset hR7 hI7 hb7 HREF HRB6 HR6 HC6 HD6 HUP6 HBW6 p0 p1 p2 p3 p4 p5 k7 k8 k9 k10 k11 hPl6 hql6 hz6
      go_wp2_with fail
      go_meet
      case rel => exact ⟨rfl, c6, r', HFB, HFW.out⟩
     ·have hg2 : (op.kind == 2) = false := by simpa using h2
      go_wp2_with fail
      go_meet
      case rel => exact ⟨rfl, cl, r, HB1, hbw1⟩
   case rest =>
    clear k0 k1 k2 k3 k4 k5 k6 k7 k8 k9 k10 k11 HB1 HS HN hbw1 HOB HOPC hPl hz5
    obtain ⟨rfl, cl', r', HB, hbc⟩ := hcut
    obtain ⟨wa, rfl⟩ : ∃ x, x = wc := ⟨_, rfl⟩
    have HNX := hid (next_u w.heap.size p cl' wa HB.out.cat)
    have hzc := hbc.size
    go_wp2_with fail
    refine HNX.out.mono ?_
    rintro e w6 ⟨hb6, ok, tv, bs, ab, cb, rfl, hbs, hcase⟩
    have HBS := hid hbs; have HCASE := hid hcase
    have HB6 := hid (HB.out.below hb6)
    have HOP := hid (open_any w.heap.size p cl' w6 HB6.out.cat)
    obtain ⟨nb, hnb⟩ : ∃ nb, nb = bs.length := ⟨_, rfl⟩
    rw [← hnb] at HBS ⊢
    have HNB := hid hnb
    clear HNX hbs hcase hnb
    go_wp2_with fail
    refine HOP.out.mono ?_
    rintro e w7 ⟨ao, co, rfl, ho, hb7⟩
    have hbc7 := hb6.trans (hb7.mono hb6.size)
    have HO := hid ho
    have HB7 := hid (HB6.out.below hb7)
    have HBS7 := hid (own_stay HBS.out fun g cur _ hc => hb7.block g (Array.getElem?_eq_some_iff.1 hc).1)
    have hLn : (cl'.os.map OItem.seq).length = r'.os.length := by rw [List.length_map, HB7.out.is.len]; simp [CL.d]
    obtain ⟨L, hL⟩ : ∃ L, L = r'.os.length := ⟨_, rfl⟩
    rw [← hL] at hLn
    have HLN := hid hLn; have HL := hid hL
    rw [hLn] at ho ⊢
    have HO := hid ho
    clear HOP ho hb7 hb6 HB6 HBS hLn hL
    have hz7 := hbc7.size
    have HTG := hid fun W (hb : Below w7.heap.size w7 W) => target_any w.heap.size p cl' W (HB7.out.cat.below hb)
    have htg : r'.tg = cl'.target := HB7.out.is.tg
    have hos : r'.os.map (fun o => (o.seq, o.bs)) = cl'.os.map fun o => (o.seq, o.bs) := HB7.out.is.os
    have HOS := hid hos
    have HBX := hid (show RBox w7 q #[.int .i64 r'.ses, .int .i64 r'.last, .slice r'.ma r'.ms.length r'.mc, .int .i64 r'.tg, .slice r'.oa r'.os.length r'.oc, .slice r'.ra r'.rs.length r'.rc] from HB7.out.box)
    rw [htg, ← HL.out] at HBX
    have HRA := hid HB7.out.rat
    have hql := HBX.out.lt
    obtain ⟨⟨p0, p1, p2, p3, p4, p5⟩, -⟩ := HBX.out.cells
    have HBF := hid fun W (hb : Below wa.heap.size wa W) => HB.out.below hb
    clear htg hos HB7 HB
    go_upto_region 20 with fail
    go_cut [124] from 104 to 124 (fun t124 wx => t124 = .bool false ∧ Below w7.heap.size w7 wx)
    case first =>
     have HT1 := HTG.out
     generalize cl'.target = tg at *
     rcases HCASE.out with ⟨ho, rfl, -, -⟩ | ⟨o, os, ho, rfl, -, -⟩
     ·have hL0 : L = 0 := by
       have h1 := HLN.out
       rw [ho] at h1
       simpa using h1.symm
      have hLn : ¬ (0 : Int) < (L : Int) := by omega
      have hLd : decide (0 < L) = false := by rw [decide_eq_false_iff_not]; omega
      clear hL0 ho
      (refine wp_region_ext (by kernel_rfl) (by kernel_rfl) ?_; (repeat (go_big_quiet_step (first | (go_at_call 21; with_reducible exact Calls.ext_of (HT1 _ (Ext.b _)))))); refine wpQuiet_nil ?_; rintro w8 ⟨x8, hx8⟩; have hb8 := x8.b; rw [← hx8] at hb8; clear hx8 x8; obtain ⟨hc8, hf8⟩ := bcell hb8; (try simp only [qD, qE, qF] at hc8 hf8); have hz8 := hb8.size; (try simp at hz8); (try have hy8_0 : w.heap.size < w8.heap.size := by omega); (try have hy8_1 : w.heap.size + 1 < w8.heap.size := by omega); (try have hy8_2 : w.heap.size + 2 < w8.heap.size := by omega); (try have hy8_3 : w.heap.size + 3 < w8.heap.size := by omega); (try have hx8_0 : w.heap.size ≤ w8.heap.size := by omega); (try have hx8_1 : w.heap.size + 1 ≤ w8.heap.size := by omega); (try have hx8_2 : w.heap.size + 2 ≤ w8.heap.size := by omega))
      go_wp2_with fail
      go_meet
      case rel => exact ⟨rfl, hb8⟩
     ·have hLp : 0 < L := by
       have h1 := HLN.out
       rw [ho] at h1
       rw [← h1]; simp
      have hLn : (0 : Int) < (L : Int) := by omega
      have hLd : decide (0 < L) = true := decide_eq_true hLp
      clear ho
      (refine wp_region_ext (by kernel_rfl) (by kernel_rfl) ?_; (repeat (go_big_quiet_step (first | (go_at_call 21; with_reducible exact Calls.ext_of (HT1 _ (Ext.b _)))))); refine wpQuiet_nil ?_; rintro w8 ⟨x8, hx8⟩; have hb8 := x8.b; rw [← hx8] at hb8; clear hx8 x8; obtain ⟨hc8, hf8⟩ := bcell hb8; (try simp only [qD, qE, qF] at hc8 hf8); have hz8 := hb8.size; (try simp at hz8); (try have hy8_0 : w.heap.size < w8.heap.size := by omega); (try have hy8_1 : w.heap.size + 1 < w8.heap.size := by omega); (try have hy8_2 : w.heap.size + 2 < w8.heap.size := by omega); (try have hy8_3 : w.heap.size + 3 < w8.heap.size := by omega); (try have hx8_0 : w.heap.size ≤ w8.heap.size := by omega); (try have hx8_1 : w.heap.size + 1 ≤ w8.heap.size := by omega); (try have hx8_2 : w.heap.size + 2 ≤ w8.heap.size := by omega))
      go_wp2_with fail
      go_meet
      case rel => exact ⟨rfl, hb8⟩
    case rest =>
     obtain ⟨rfl, hbx⟩ := hcut
     obtain ⟨w8, rfl⟩ : ∃ x, x = wc := ⟨_, rfl⟩
     have HX8 := hid hbx
     have HBX8 := hid (HBX.out.below hbx)
     have HRA8 := hid (HRA.out.below hbx)
     have HBS8 := hid (own_stay HBS7.out fun g cur _ hc => hbx.block g (Array.getElem?_eq_some_iff.1 hc).1)
     have HO8 := hid (own_stay HO.out fun g cur _ hc => hbx.block g (Array.getElem?_eq_some_iff.1 hc).1)
     have hba8 := hbc7.trans (hbx.mono hz7)
     have hza8 := hba8.size
     clear p0 p1 p2 p3 p4 p5 hql hbx HX8 HBX HRA HBS7 HO HTG
     obtain ⟨⟨p0, p1, p2, p3, p4, p5⟩, -⟩ := HBX8.out.cells
     have hql := HBX8.out.lt
     go_upto_region 22 with fail
     go_cut [154] from 125 to 154 (fun t154 wx => t154 = .bool false ∧ Below w8.heap.size w8 wx)
     case first =>
      rcases HCASE.out with ⟨ho, rfl, rfl, rfl⟩ | ⟨o, os, ho, rfl, rfl, rfl⟩
      ·obtain rfl : nb = 0 := by rw [HNB.out]; rfl
       go_wp2_with fail
       go_meet
       case rel => exact ⟨rfl, Below.refl _ _⟩
      ·have hLp : 0 < L := by
        have h1 := HLN.out
        rw [ho] at h1
        rw [← h1]; simp
       have hrl : 0 < r'.os.length := by rw [← HL.out]; exact hLp
       obtain ⟨o', ho'⟩ : ∃ o', r'.os[0]? = some o' := ⟨_, List.getElem?_eq_getElem hrl⟩
       have hob : o'.bs = o.bs := by
        have h1 := congrArg (fun l => l[0]?) HOS.out
        simp only [List.getElem?_map, ho', ho, List.getElem?_cons_zero, Option.map_some, Option.some.injEq, Prod.mk.injEq] at h1
        exact h1.2
       have hops := HRA8.out.ops
       rw [← HL.out] at hops
       obtain ⟨g, hga, hgl, hc1⟩ := own_at (f := iEnc) (fun _ => rfl) hops ho' (t := 1) (by omega) rfl
       rw [hga] at p4
       rw [Nat.zero_mul, Nat.zero_add] at hc1
       have hit := HRA8.out.item o' (List.mem_of_getElem? ho')
       have hbyte := (HBF.out wa (Below.refl _ _)).cat.byte o (by rw [ho]; exact List.mem_cons_self ..)
       unfold OItem.val at hc1 hit
       rw [hob, ← HNB.out] at hc1 hit
       have hn17 : nb ≤ 17592186044416 := by have := hbyte.1; rw [← HNB.out] at this; omega
       have HSM := hid (sameB_any ab o'.a cb o'.c nb nb o.bs o.bs true w8 HNB.out.symm HNB.out.symm (own_bat' HNB.out.symm HBS8.out hbyte.2 hn17) (own_bat' HNB.out.symm hit hbyte.2 hn17) (by simp))
       have htt : (cl'.target != cl'.target) = false := by simp
       have hLi : (0 : Int) < (L : Int) := by omega
       clear hops hit hbyte ho ho' hob hrl hga hn17
       generalize o'.a = oa1 at *
       generalize o'.c = oc1 at *
       go_wp2_with fail
       refine HSM.out.mono ?_
       rintro e w9 ⟨rfl, hb9⟩
       clear HSM
       go_wp2_with fail
       go_meet
       case rel => exact ⟨rfl, hb9⟩
     case rest =>
      obtain ⟨rfl, hbx⟩ := hcut
      obtain ⟨w9, rfl⟩ : ∃ x, x = wc := ⟨_, rfl⟩
      have HBX9 := hid (HBX8.out.below hbx)
      have HRA9 := hid (HRA8.out.below hbx)
      have HBS9 := hid (own_stay HBS8.out fun g cur _ hc => hbx.block g (Array.getElem?_eq_some_iff.1 hc).1)
      have HO9 := hid (own_stay HO8.out fun g cur _ hc => hbx.block g (Array.getElem?_eq_some_iff.1 hc).1)
      have hba9 := hba8.trans (hbx.mono hza8)
      have hza9 := hba9.size
      have hLb : L ≤ 1099511627776 := by
       have h1 := (HBF.out wa (Below.refl _ _)).cat.os_len
       have h2 := HLN.out
       rw [List.length_map] at h2
       omega
      have hnbb : nb ≤ 10000 := by
       rcases HCASE.out with ⟨-, -, -, h3⟩ | ⟨o, os, ho, -, -, h3⟩
       ·rw [HNB.out, h3]; exact Nat.zero_le _
       ·have h1 := ((HBF.out wa (Below.refl _ _)).cat.byte o (by rw [ho]; exact List.mem_cons_self ..)).1
        rw [HNB.out, h3]; omega
      clear p0 p1 p2 p3 p4 p5 hql hbx HBX8 HRA8 HBS8 HO8
      go_upto_region 25 with fail
      go_loopw [157] (fun t157 wx => ∃ k : Nat, t157 = .int .i64 (k : Nat) ∧ k ≤ L ∧ Below w9.heap.size w9 wx) (fun t157 _ => L - (intOf t157).toNat)
      case atStart => exact ⟨0, rfl, Nat.zero_le _, Below.refl _ _⟩
      case round =>
       obtain ⟨k, rfl, hk, hbk⟩ := hrel
       have hzk := hbk.size
       by_cases hkL : k < L
       ·have hkL' : (k : Int) < (L : Int) := by omega
        have hkr : k < r'.os.length := by rw [← HL.out]; exact hkL
        obtain ⟨o', ho'⟩ : ∃ o', r'.os[k]? = some o' := ⟨_, List.getElem?_eq_getElem hkr⟩
        have hsq : (cl'.os.map OItem.seq)[k]? = some o'.seq := by
         have h1 := congrArg (fun l => (l.map Prod.fst)[k]?) HOS.out
         simp only [List.map_map, List.getElem?_map, ho', Option.map_some] at h1
         rw [List.getElem?_map]
         exact h1.symm
        have hops := (HRA9.out.below hbk).ops
        rw [← HL.out] at hops
        obtain ⟨g, hga, hgl, hc0⟩ := own_at (f := iEnc) (fun _ => rfl) hops ho' (t := 0) (by omega) rfl
        rw [Nat.add_zero] at hc0
        obtain ⟨⟨p0, p1, p2, p3, p4, p5⟩, -⟩ := (HBX9.out.below hbk).cells
        have hql := (HBX9.out.below hbk).lt
        rw [hga] at p4
        have hO := HO9.out
        rcases hO.2 with ⟨_, h2⟩ | ⟨g2, cap, cur, h1, -⟩
        ·omega
        injection h1 with ha2 _ hcap2
        subst ha2; subst hcap2
        have e0 := hO.cells (g := g2) rfl k (.int .i64 o'.seq) (by unfold zCells; rw [List.getElem?_map, hsq]; rfl)
        rw [Go.Proofs.YtekmadgacepdfaaGreat.K.addr0] at e0
        have hg2 := (hO.lt g2 rfl).2
        have e1 := (hbk.cell (p := ⟨g2, k, none⟩) hg2).trans e0
        have hg3 := Nat.lt_of_lt_of_le hg2 hzk
        have hss : (o'.seq != o'.seq) = false := by simp
        clear hops hO e0 hsq ho' hkr hga p0 p1 p2 p3 p5
        generalize o'.seq = sq at *
        go_upto_region 27 with fail
        go_quiet (fail)
        go_wp2_with fail
        go_roundw
        case rel => exact ⟨k + 1, by go_num, by omega, below_drewN' hbk _⟩
        case measure => simp [intOf]; omega
       ·obtain rfl : k = L := by omega
        have hge : ¬ (k : Int) < (k : Int) := by omega
        have HBS10 := hid (own_stay HBS9.out fun g cur _ hc => hbk.block g (Array.getElem?_eq_some_iff.1 hc).1)
        have hbak := hba9.trans (hbk.mono hza9)
        clear HBS9 HO9 HRA9 HBX9 hba9 hza9 hbk
        go_upto_region 31 with fail
        go_loopw [174] (fun t174 wx => ∃ (m : Nat) (bl : List Nat), t174 = .int .i64 (m : Nat) ∧ m ≤ nb ∧ Hid (bl.length = nb) ∧ Hid (wx.ownsRow wa.heap.size 5 1 (.slice ab nb cb) nb (bCells bl)) ∧ Below wa.heap.size wa wx) (fun t174 _ => nb - (intOf t174).toNat)
        case atStart => exact ⟨0, bs, rfl, Nat.zero_le _, hid HNB.out.symm, HBS10, hbak⟩
        case round =>
         obtain ⟨m, bl, rfl, hm, HLB, HBL, hbm⟩ := hrel
         clear HBS10 hbak
         by_cases hmn : m < nb
         ·have hmn' : (m : Int) < (nb : Int) := by omega
          have hrow := HBL.out
          rcases hrow.2 with ⟨_, h2⟩ | ⟨g, cap, cur, h1, -⟩
          ·omega
          injection h1 with ha2 _ hcap2
          subst ha2; subst hcap2
          obtain ⟨⟨v, q1⟩, q2, q3, q4⟩ := setBy HLB.out hrow hmn
          obtain ⟨hg1, hg2⟩ := hrow.lt g rfl
          have HG2 := hid q3
          have HB2 := hid (hbm.grown q4 hbm.size (fun k hk => by cases hk; exact hg1))
          have HL2 : Hid ((bl.set m 99).length = nb) := hid (by rw [List.length_set]; exact HLB.out)
          clear q3 q4 hrow
          go_wp2_with fail
          go_roundw
          case rel => exact ⟨m + 1, _, by go_num, by omega, HL2, HG2, HB2.out⟩
          case measure => simp [intOf]; omega
         ·obtain rfl : m = nb := by omega
          have hge2 : ¬ (m : Int) < (m : Int) := by omega
          have HF := hid (HBF.out wr hbm)
          have hbF := hbc.trans (hbm.mono hzc)
          go_wp2_with fail
          go_roundw
          case rel => exact ⟨i + 1, cl', r', by go_num, by omega, HF, hbF⟩
          case measure => simp [intOf]; omega
  ·obtain rfl : i = mlen := by omega
   have hge : ¬ (i : Int) < (i : Int) := by omega
   have HRS := hid (results_any w.heap.size p cl wr HB.out.cat)
   have hRl := HB.out.cat.rs_len
   have hRS : r.rs = cl.rs := HB.out.is.rs
   have HBX := hid (show RBox wr q #[.int .i64 r.ses, .int .i64 r.last, .slice r.ma r.ms.length r.mc, .int .i64 r.tg, .slice r.oa r.os.length r.oc, .slice r.ra r.rs.length r.rc] from HB.out.box)
   rw [hRS] at HBX
   have HRA := hid HB.out.rat
   obtain ⟨n, hn⟩ : ∃ n, n = cl.rs.length := ⟨_, rfl⟩
   rw [← hn] at hRl HBX
   have HN := hid hn; have HRQ := hid hRS
   have hzw := hbw.size
   clear hn hRS HB
   go_wp2_with fail
   refine HRS.out.mono ?_
   rintro e w6 ⟨a9, c9, rfl, ho, hb6⟩
   rw [← HN.out] at ho ⊢
   have HO := hid ho
   have HBX6 := hid (HBX.out.below hb6)
   have HRA6 := hid (HRA.out.below hb6)
   have hbw6 := hbw.trans (hb6.mono hzw)
   have hzw6 := hbw6.size
   clear HRS ho hb6 HBX HRA
   go_upto_region 38 with fail
   go_loopw [186] (fun t186 wx => ∃ k : Nat, t186 = .int .i64 (k : Nat) ∧ k ≤ n ∧ Below w6.heap.size w6 wx) (fun t186 _ => n - (intOf t186).toNat)
   case atStart => exact ⟨0, rfl, Nat.zero_le _, Below.refl _ _⟩
   case round =>
    obtain ⟨k, rfl, hk, hbk⟩ := hrel
    have hzk := hbk.size
    have HBXk := hid (HBX6.out.below hbk)
    obtain ⟨⟨p0, p1, p2, p3, p4, p5⟩, -⟩ := HBXk.out.cells
    have hql := HBXk.out.lt
    clear p0 p1 p2 p3 p4
    by_cases hkL : k < n
    ·have hkL' : (k : Int) < (n : Int) := by omega
     have hgk : ¬ (n : Int) ≤ (k : Int) := by omega
     have hgd : decide ((n : Int) ≤ (k : Int)) = false := decide_eq_false hgk
     have hgn : decide (n ≤ k) = false := decide_eq_false (by omega)
     have hkr : k < cl.rs.length := by rw [← HN.out]; exact hkL
     obtain ⟨y, hy⟩ : ∃ y, cl.rs[k]? = some y := ⟨_, List.getElem?_eq_getElem hkr⟩
     have hres := (HRA6.out.below hbk).res
     rw [HRQ.out, ← HN.out] at hres
     obtain ⟨g, hga, hgl, e0⟩ := own_at (f := qEnc) (fun _ => rfl) hres hy (t := 0) (by omega) rfl
     obtain ⟨g1, hg1, -, e1⟩ := own_at (f := qEnc) (fun _ => rfl) hres hy (t := 1) (by omega) rfl
     obtain ⟨g2, hg2, -, e2⟩ := own_at (f := qEnc) (fun _ => rfl) hres hy (t := 2) (by omega) rfl
     rw [hga] at hg1 hg2 p5
     simp only [Option.some.injEq, Addr.mk.injEq, and_true] at hg1 hg2
     subst hg1
     subst hg2
     have hO := own_stay HO.out fun g cur _ hc => hbk.block g (Array.getElem?_eq_some_iff.1 hc).1
     obtain ⟨g3, hg3, hgl3, f0⟩ := own_at (f := rEnc) (fun _ => rfl) hO hy (t := 0) (by omega) rfl
     subst hg3
     obtain ⟨g4, hg4, -, f1⟩ := own_at (f := rEnc) (fun _ => rfl) hO hy (t := 1) (by omega) rfl
     obtain ⟨g5, hg5, -, f2⟩ := own_at (f := rEnc) (fun _ => rfl) hO hy (t := 2) (by omega) rfl
     simp only [Option.some.injEq, Addr.mk.injEq, and_true] at hg4 hg5
     subst hg4
     subst hg5
     rw [Nat.add_zero] at e0 f0
     have hs1 : (y.seq != y.seq) = false := by simp
     have hs2 : (y.code != y.code) = false := by simp
     have hs3 : (y.num != y.num) = false := by simp
     clear hres hO hy hkr hga
     generalize y.seq = z1 at *
     generalize y.code = z2 at *
     generalize y.num = z3 at *
     go_upto_region 40 with fail
     go_quiet (fail)
     go_wp2_with fail
     go_roundw
     case rel => exact ⟨k + 1, by go_num, by omega, below_drewN' hbk _⟩
     case measure => simp [intOf]; omega
    ·obtain rfl : k = n := by omega
     have hge2 : ¬ (k : Int) < (k : Int) := by omega
     have hfin := hbw6.trans (hbk.mono hzw6)
     go_wp2_with fail
     go_ret
     exact ⟨by simp, hfin⟩
end Go.Proofs.YtekmadgacepdfaaGreat.U
