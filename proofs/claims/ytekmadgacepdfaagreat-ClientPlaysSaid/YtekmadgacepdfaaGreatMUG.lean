/- Several texts as one: UG UK. -/
import Derived.Test.YtekmadgacepdfaaGreatQ0
import Derived.Test.YtekmadgacepdfaaGreatMUD
import Derived.Test.YtekmadgacepdfaaGreatMNC
import Derived.Test.YtekmadgacepdfaaGreatMPY
import Derived.Test.YtekmadgacepdfaaGreatMUI
namespace Go.Proofs.YtekmadgacepdfaaGreat.U
set_option linter.unusedVariables false
open Go.RowKit Fl Go.Maps
open Go.Proofs.YtekmadgacepdfaaGreat.P (bCells ls0 ls1 ls2)
set_option linter.unusedSimpArgs false

theorem look_open {B p : Nat} {c : CL} {w : World} (h : CAt B p c w) {o : OItem} (ho : c.os.find? (fun x => decide (x.seq = o.seq)) = some o) (hs : -9223372036854775808 ≤ o.seq ∧ o.seq ≤ 9223372036854775807) :
  (Instr.lookup 88 (.map (some c.mb)) (.int .i64 o.seq) false).run Tryz.prog w = .ok o.val w := by
 have hw : (Lit.int .i64 o.seq).wf = true := by
  simp only [Lit.wf, IntKind.min, IntKind.max, Bool.and_eq_true]
  exact ⟨decide_eq_true hs.1, decide_eq_true hs.2⟩
 obtain ⟨v, ps, hrun, hv⟩ := h.map.lookup mapKeyed Tryz.underlying88 (Tryz.zeroValue47 w) (zd := .held (.slice none 0 0)) (zp := []) rfl (keyOf_int_mk Tryz.underlying2 hw)
 rw [dat_at, ho] at hv
 cases hv
 exact hrun
def NextRet (c : CL) (w : World) (e : Ending) (w' : World) : Prop := Below w.heap.size w w' ∧ match c.os with
 | [] => e = .returned (.tuple #[.int .i64 0, .slice none 0 0, .bool false])
 | o :: _ => ∃ a cc, e = .returned (.tuple #[.int .i64 c.target, .slice a o.bs.length cc, .bool true]) ∧ w'.ownsRow w.heap.size 5 1 (.slice a o.bs.length cc) o.bs.length (bCells o.bs)
def NxR (Y : World) (t : Value) (L : List Nat) : List Value → World → Prop
 | [], X => X = Y
 | [v0], X => v0 = t ∧ Below Y.heap.size Y X
 | [v0, v1], X => v0 = t ∧ (∃ a c, v1 = .slice a L.length c ∧ X.ownsRow Y.heap.size 5 1 (.slice a L.length c) L.length (bCells L)) ∧ Below Y.heap.size Y X
 | _, _ => False
theorem NxR.b {Y X : World} {t : Value} {L : List Nat} : ∀ {ms : List Value}, NxR Y t L ms X → Below Y.heap.size Y X
 | [], h => by cases h; exact Below.refl _ _
 | [_], h => h.2
 | [_, _], h => h.2.2
 | _ :: _ :: _ :: _, h => h.elim
set_option maxHeartbeats 1000000 in
set_option maxRecDepth 100000 in
theorem next_any' (B p : Nat) (c : CL) (w : World) (h : CAt B p c w) :
  Calls Tryz.prog 19 #[.pointer (some ⟨p, 0, none⟩)] w (NextRet c w) := by
 have HC := hid h
 have HO := hid (open_any B p c w h)
 have hp := h.lt
 clear h
 cases hos : c.os with
 | nil =>
  have hret : NextRet c w = fun e w' => Below w.heap.size w w' ∧ e = .returned (.tuple #[.int .i64 0, .slice none 0 0, .bool false]) := by
   funext e w'; unfold NextRet; rw [hos]
  rw [hret]
  rw [hos] at HO
  clear hret hos
  go_enter Tryz.func19, Tryz.ntmps19
  go_wp2_with fail
  refine HO.out.mono ?_
  rintro e w1 ⟨a, cc, rfl, ho, hb⟩
  clear HO ho
  go_wp2_with fail
  exact bodyPost_ret (v := .tuple #[.int .i64 0, .slice none 0 0, .bool false]) (by simp [results, Tryz.results19, go_sem]) rfl ⟨hb, rfl⟩
 | cons o os =>
  have hret : NextRet c w = fun e w' => Below w.heap.size w w' ∧ ∃ a cc, e = .returned (.tuple #[.int .i64 c.target, .slice a o.bs.length cc, .bool true]) ∧ w'.ownsRow w.heap.size 5 1 (.slice a o.bs.length cc) o.bs.length (bCells o.bs) := by
   funext e w'; unfold NextRet; rw [hos]
  rw [hret]
  have hmem : o ∈ c.os := by rw [hos]; exact List.mem_cons_self ..
  have hfind := find_first hos
  have hnum := HC.out.num o hmem
  have hlast := HC.out.last
  have hbyte := (HC.out.byte o hmem).1
  have hlen : (c.os.map OItem.seq).length = os.length + 1 := by rw [hos]; simp
  have hsq : (c.os.map OItem.seq)[0]? = some o.seq := by rw [hos]; rfl
  have LK := hid fun W (hb : Below w.heap.size w W) => look_open (HC.out.below hb) hfind ⟨by omega, by omega⟩
  have TG := hid fun W (hb : Below w.heap.size w W) => target_any B p c W (HC.out.below hb)
  have CL' := hid fun W (hb : Below w.heap.size w W) => cloneB_any (its := o.bs) rfl ((HC.out.below hb).item o hmem) (by omega)
  have CC := hid fun W (hb : Below w.heap.size w W) => (HC.out.below hb).cells
  have hset : Hid (o.val = .slice o.a o.bs.length o.c) := hid rfl
  obtain ⟨O, hO⟩ : ∃ O, O = o.val := ⟨_, rfl⟩
  rw [← hO] at LK
  have HOV := hid (hO.trans hset.out)
  have CLO := hid fun W (hb : Below w.heap.size w W) => (show Calls Tryz.prog 47 #[O] W (cloneBRet o.bs W) from by rw [HOV.out]; exact CL'.out W hb)
  clear hret hmem hfind hnum hlast hos hO hset
  generalize c.os.map OItem.seq = sq at *
  go_enter Tryz.func19, Tryz.ntmps19
  go_wp2_with fail
  refine HO.out.mono ?_
  rintro e w1 ⟨a, cc, rfl, ho, hb⟩
  have hk0 : ∃ g, a = some ⟨g, 0, none⟩ ∧ g < w1.heap.size ∧ w1.cell? ⟨g, 0, none⟩ = some (.int .i64 o.seq) := by
   rcases ho.2 with ⟨h1, h2⟩ | ⟨g, cap, cur, h1, _, hg, _⟩
   ·omega
   ·injection h1 with ha _ _
    subst ha
    refine ⟨g, rfl, (ho.lt g rfl).2, ?_⟩
    have := ho.cells (g := g) rfl 0 (.int .i64 o.seq) (by unfold zCells; rw [List.getElem?_map, hsq]; rfl)
    rwa [K.addr0] at this
  obtain ⟨g, rfl, hg, k0⟩ := hk0
  have hlen0 : 0 < sq.length := by omega
  clear HO ho hsq hlen
  generalize sq.length = n at *
  have hz1 := hb.size
  have hnn : ¬ (n : Int) = 0 := by omega
  have hn0 : 0 < (n : Int) := by omega
  go_upto_region 4 with fail
  obtain ⟨Y0, hY0⟩ : ∃ Y : World, Y = { w1 with drawn := w1.drawn + 1 } := ⟨_, rfl⟩
  have hb0 : Below w1.heap.size w1 Y0 := by rw [hY0]; exact Below.drew (Below.refl _ w1)
  have z0 : Y0.heap.size = w1.heap.size := by rw [hY0]
  have HY0 := hid hY0
  have toW1 := hid fun X (hx : Below Y0.heap.size Y0 X) => hb0.trans (hx.mono (Nat.le_of_eq z0.symm))
  have toW := hid fun X (hx : Below Y0.heap.size Y0 X) => hb.trans ((toW1.out X hx).mono hz1)
  have HK0 := hid k0; have HG := hid hg; have HZ0 := hid z0
  clear hY0 hb0 z0 k0
  refine wp_region_chainV [(0, fun _ => .pointer (some ⟨p, 0, none⟩)), (1, fun ms => ms.getD 0 undef), (0, fun _ => .pointer (some ⟨p, 0, none⟩)), (0, fun _ => .pointer (some ⟨p, 0, none⟩)), (0, fun _ => .pointer (some ⟨p, 4, none⟩)), (0, fun _ => .map (some c.mb)), (0, fun _ => .slice (some ⟨g, 0, none⟩) n cc), (0, fun _ => .pointer (some ⟨g, 0, none⟩)), (0, fun _ => .int .i64 o.seq), (0, fun _ => O), (2, fun ms => ms.getD 1 undef), (1, fun ms => ms.getD 0 undef), (2, fun ms => ms.getD 1 undef), (0, fun _ => .bool true)] (NxR Y0 (.int .i64 c.target) o.bs) (fun _ _ => False) [1, 10] rfl (by kernel_rfl) (by kernel_rfl) (by kernel_rfl) (by decide) (by decide) HY0.out.symm ?_ ?_ ?_
  ·simp only [StepsV, List.nil_append, List.cons_append, Nat.zero_add, Nat.reduceAdd]
   refine ⟨?p0, ?tg, ?p2, ?p3, ?p4, ?ld, ?p6, ?p7, ?l8, ?lk, ?cl, ?a0, ?a1, ?a2, trivial⟩
   case p0 =>
    intro ms X g1 g2 hx
    simp only [moreV, gotV, List.mem_cons, List.not_mem_nil, Nat.reduceEqDiff, or_false, or_true, or_self, if_true, if_false, Option.isNone_some, Option.isNone_none, Bool.false_eq_true, List.nil_append, List.cons_append]
    generalize hR : (fun v w' => (_ → v = _) ∧ _) = RR
    have HR := hid hR
    have HXX := hid hx
    clear hR g1 g2 hx
    try simp only [putsFrom, Act.put, qA, qB, qC, Nat.zero_add, Nat.reduceAdd, uv, List.getElem?_cons_zero, List.getElem?_cons_succ, List.take_succ_cons, List.take_zero, List.getD_cons_zero, List.getD_cons_succ]
    go_wp2_with fail
    have hR := HR.out
    subst hR
    exact ⟨rfl, fun _ => rfl, HXX.out⟩
   case tg =>
    intro ms X g1 g2 hx
    have hl : ms.length = 0 := Nat.le_antisymm (Nat.le_trans g2 (by decide +kernel)) (Nat.le_trans (by decide +kernel) g1)
    obtain rfl := P.ls0 hl
    obtain rfl : Y0 = X := Eq.symm hx
    have hw0 := toW.out Y0 (Below.refl _ _)
    simp only [moreV, gotV, List.mem_cons, List.not_mem_nil, Nat.reduceEqDiff, or_false, or_true, or_self, if_true, if_false, Option.isNone_some, Option.isNone_none, Bool.false_eq_true, List.nil_append, List.cons_append]
    generalize hR : (fun v w' => (_ → v = _) ∧ _) = RR
    have HR := hid hR
    clear hR g1 g2 hl
    simp only [putsFrom, Act.put, qA, qB, qC, Nat.zero_add, Nat.reduceAdd, uv, List.getElem?_cons_zero, List.getElem?_cons_succ, List.take_succ_cons, List.take_zero, List.getD_cons_zero, List.getD_cons_succ]
    have HC := hid (TG.out Y0 hw0)
    go_wp2_with fail
    refine HC.out.mono ?_
    rintro e X2 ⟨rfl, hb⟩
    have HE : Hid (NxR Y0 (.int .i64 c.target) o.bs [.int .i64 c.target] X2) := hid (⟨rfl, hb⟩)
    clear HC
    go_wp2_with fail
    have hR := HR.out
    subst hR
    exact ⟨rfl, fun _ => rfl, HE.out⟩
   case p2 =>
    intro ms X g1 g2 hx
    simp only [moreV, gotV, List.mem_cons, List.not_mem_nil, Nat.reduceEqDiff, or_false, or_true, or_self, if_true, if_false, Option.isNone_some, Option.isNone_none, Bool.false_eq_true, List.nil_append, List.cons_append]
    generalize hR : (fun v w' => (_ → v = _) ∧ _) = RR
    have HR := hid hR
    have HXX := hid hx
    clear hR g1 g2 hx
    try simp only [putsFrom, Act.put, qA, qB, qC, Nat.zero_add, Nat.reduceAdd, uv, List.getElem?_cons_zero, List.getElem?_cons_succ, List.take_succ_cons, List.take_zero, List.getD_cons_zero, List.getD_cons_succ]
    go_wp2_with fail
    have hR := HR.out
    subst hR
    exact ⟨rfl, fun _ => rfl, HXX.out⟩
   case p3 =>
    intro ms X g1 g2 hx
    have hpp := (toW.out X hx.b).size
    simp only [moreV, gotV, List.mem_cons, List.not_mem_nil, Nat.reduceEqDiff, or_false, or_true, or_self, if_true, if_false, Option.isNone_some, Option.isNone_none, Bool.false_eq_true, List.nil_append, List.cons_append]
    generalize hR : (fun v w' => (_ → v = _) ∧ _) = RR
    have HR := hid hR
    have HXX := hid hx
    clear hR g1 g2 hx
    try simp only [putsFrom, Act.put, qA, qB, qC, Nat.zero_add, Nat.reduceAdd, uv, List.getElem?_cons_zero, List.getElem?_cons_succ, List.take_succ_cons, List.take_zero, List.getD_cons_zero, List.getD_cons_succ]
    go_wp2_with fail
    have hR := HR.out
    subst hR
    exact ⟨rfl, fun _ => rfl, HXX.out⟩
   case p4 =>
    intro ms X g1 g2 hx
    simp only [moreV, gotV, List.mem_cons, List.not_mem_nil, Nat.reduceEqDiff, or_false, or_true, or_self, if_true, if_false, Option.isNone_some, Option.isNone_none, Bool.false_eq_true, List.nil_append, List.cons_append]
    generalize hR : (fun v w' => (_ → v = _) ∧ _) = RR
    have HR := hid hR
    have HXX := hid hx
    clear hR g1 g2 hx
    try simp only [putsFrom, Act.put, qA, qB, qC, Nat.zero_add, Nat.reduceAdd, uv, List.getElem?_cons_zero, List.getElem?_cons_succ, List.take_succ_cons, List.take_zero, List.getD_cons_zero, List.getD_cons_succ]
    go_wp2_with fail
    have hR := HR.out
    subst hR
    exact ⟨rfl, fun _ => rfl, HXX.out⟩
   case ld =>
    intro ms X g1 g2 hx
    have hw := toW.out X hx.b
    obtain ⟨b0, b1, b2, b3, b4, b5⟩ := CC.out X hw
    simp only [moreV, gotV, List.mem_cons, List.not_mem_nil, Nat.reduceEqDiff, or_false, or_true, or_self, if_true, if_false, Option.isNone_some, Option.isNone_none, Bool.false_eq_true, List.nil_append, List.cons_append]
    generalize hR : (fun v w' => (_ → v = _) ∧ _) = RR
    have HR := hid hR
    have HXX := hid hx
    clear hR g1 g2 hx hw b0 b1 b2 b3 b5
    try simp only [putsFrom, Act.put, qA, qB, qC, Nat.zero_add, Nat.reduceAdd, uv, List.getElem?_cons_zero, List.getElem?_cons_succ, List.take_succ_cons, List.take_zero, List.getD_cons_zero, List.getD_cons_succ]
    go_wp2_with fail
    have hR := HR.out
    subst hR
    exact ⟨rfl, fun _ => rfl, HXX.out⟩
   case p6 =>
    intro ms X g1 g2 hx
    simp only [moreV, gotV, List.mem_cons, List.not_mem_nil, Nat.reduceEqDiff, or_false, or_true, or_self, if_true, if_false, Option.isNone_some, Option.isNone_none, Bool.false_eq_true, List.nil_append, List.cons_append]
    generalize hR : (fun v w' => (_ → v = _) ∧ _) = RR
    have HR := hid hR
    have HXX := hid hx
    clear hR g1 g2 hx
    try simp only [putsFrom, Act.put, qA, qB, qC, Nat.zero_add, Nat.reduceAdd, uv, List.getElem?_cons_zero, List.getElem?_cons_succ, List.take_succ_cons, List.take_zero, List.getD_cons_zero, List.getD_cons_succ]
    go_wp2_with fail
    have hR := HR.out
    subst hR
    exact ⟨rfl, fun _ => rfl, HXX.out⟩
   case p7 =>
    intro ms X g1 g2 hx
    simp only [moreV, gotV, List.mem_cons, List.not_mem_nil, Nat.reduceEqDiff, or_false, or_true, or_self, if_true, if_false, Option.isNone_some, Option.isNone_none, Bool.false_eq_true, List.nil_append, List.cons_append]
    generalize hR : (fun v w' => (_ → v = _) ∧ _) = RR
    have HR := hid hR
    have HXX := hid hx
    clear hR g1 g2 hx
    try simp only [putsFrom, Act.put, qA, qB, qC, Nat.zero_add, Nat.reduceAdd, uv, List.getElem?_cons_zero, List.getElem?_cons_succ, List.take_succ_cons, List.take_zero, List.getD_cons_zero, List.getD_cons_succ]
    go_wp2_with fail
    have hR := HR.out
    subst hR
    exact ⟨rfl, fun _ => rfl, HXX.out⟩
   case l8 =>
    intro ms X g1 g2 hx
    have k8 := ((toW1.out X hx.b).cell (p := ⟨g, 0, none⟩) HG.out).trans HK0.out
    simp only [moreV, gotV, List.mem_cons, List.not_mem_nil, Nat.reduceEqDiff, or_false, or_true, or_self, if_true, if_false, Option.isNone_some, Option.isNone_none, Bool.false_eq_true, List.nil_append, List.cons_append]
    generalize hR : (fun v w' => (_ → v = _) ∧ _) = RR
    have HR := hid hR
    have HXX := hid hx
    clear hR g1 g2 hx
    try simp only [putsFrom, Act.put, qA, qB, qC, Nat.zero_add, Nat.reduceAdd, uv, List.getElem?_cons_zero, List.getElem?_cons_succ, List.take_succ_cons, List.take_zero, List.getD_cons_zero, List.getD_cons_succ]
    go_wp2_with fail
    have hR := HR.out
    subst hR
    exact ⟨rfl, fun _ => rfl, HXX.out⟩
   case lk =>
    intro ms X g1 g2 hx
    have hlk := LK.out X (toW.out X hx.b)
    simp only [moreV, gotV, List.mem_cons, List.not_mem_nil, Nat.reduceEqDiff, or_false, or_true, or_self, if_true, if_false, Option.isNone_some, Option.isNone_none, Bool.false_eq_true, List.nil_append, List.cons_append]
    generalize hR : (fun v w' => (_ → v = _) ∧ _) = RR
    have HR := hid hR
    have HXX := hid hx
    clear hR g1 g2 hx
    try simp only [putsFrom, Act.put, qA, qB, qC, Nat.zero_add, Nat.reduceAdd, uv, List.getElem?_cons_zero, List.getElem?_cons_succ, List.take_succ_cons, List.take_zero, List.getD_cons_zero, List.getD_cons_succ]
    go_wp2_with fail
    have hR := HR.out
    subst hR
    exact ⟨rfl, fun _ => rfl, HXX.out⟩
   case cl =>
    intro ms X g1 g2 hx
    have hl : ms.length = 1 := Nat.le_antisymm (Nat.le_trans g2 (by decide +kernel)) (Nat.le_trans (by decide +kernel) g1)
    obtain ⟨v0, rfl⟩ := P.ls1 hl
    obtain ⟨rfl, hb1⟩ := hx
    have hw0 := toW.out X hb1
    simp only [moreV, gotV, List.mem_cons, List.not_mem_nil, Nat.reduceEqDiff, or_false, or_true, or_self, if_true, if_false, Option.isNone_some, Option.isNone_none, Bool.false_eq_true, List.nil_append, List.cons_append]
    generalize hR : (fun v w' => (_ → v = _) ∧ _) = RR
    have HR := hid hR
    clear hR g1 g2 hl
    simp only [putsFrom, Act.put, qA, qB, qC, Nat.zero_add, Nat.reduceAdd, uv, List.getElem?_cons_zero, List.getElem?_cons_succ, List.take_succ_cons, List.take_zero, List.getD_cons_zero, List.getD_cons_succ]
    have HC := hid (CLO.out X hw0)
    go_wp2_with fail
    refine HC.out.mono ?_
    rintro e X2 ⟨a', c', rfl, ho', hb'⟩
    have HE : Hid (NxR Y0 (.int .i64 c.target) o.bs [.int .i64 c.target, .slice a' o.bs.length c'] X2) := hid (⟨rfl, ⟨a', c', rfl, K.own_le ho' hb1.size⟩, hb1.trans (hb'.mono hb1.size)⟩)
    clear HC
    go_wp2_with fail
    have hR := HR.out
    subst hR
    exact ⟨rfl, fun _ => rfl, HE.out⟩
   case a0 =>
    intro ms X g1 g2 hx
    simp only [moreV, gotV, List.mem_cons, List.not_mem_nil, Nat.reduceEqDiff, or_false, or_true, or_self, if_true, if_false, Option.isNone_some, Option.isNone_none, Bool.false_eq_true, List.nil_append, List.cons_append]
    generalize hR : (fun v w' => (_ → v = _) ∧ _) = RR
    have HR := hid hR
    have HXX := hid hx
    clear hR g1 g2 hx
    try simp only [putsFrom, Act.put, qA, qB, qC, Nat.zero_add, Nat.reduceAdd, uv, List.getElem?_cons_zero, List.getElem?_cons_succ, List.take_succ_cons, List.take_zero, List.getD_cons_zero, List.getD_cons_succ]
    go_wp2_with fail
    have hR := HR.out
    subst hR
    exact ⟨rfl, fun _ => rfl, HXX.out⟩
   case a1 =>
    intro ms X g1 g2 hx
    simp only [moreV, gotV, List.mem_cons, List.not_mem_nil, Nat.reduceEqDiff, or_false, or_true, or_self, if_true, if_false, Option.isNone_some, Option.isNone_none, Bool.false_eq_true, List.nil_append, List.cons_append]
    generalize hR : (fun v w' => (_ → v = _) ∧ _) = RR
    have HR := hid hR
    have HXX := hid hx
    clear hR g1 g2 hx
    try simp only [putsFrom, Act.put, qA, qB, qC, Nat.zero_add, Nat.reduceAdd, uv, List.getElem?_cons_zero, List.getElem?_cons_succ, List.take_succ_cons, List.take_zero, List.getD_cons_zero, List.getD_cons_succ]
    go_wp2_with fail
    have hR := HR.out
    subst hR
    exact ⟨rfl, fun _ => rfl, HXX.out⟩
   case a2 =>
    intro ms X g1 g2 hx
    simp only [moreV, gotV, List.mem_cons, List.not_mem_nil, Nat.reduceEqDiff, or_false, or_true, or_self, if_true, if_false, Option.isNone_some, Option.isNone_none, Bool.false_eq_true, List.nil_append, List.cons_append]
    generalize hR : (fun v w' => (_ → v = _) ∧ _) = RR
    have HR := hid hR
    have HXX := hid hx
    clear hR g1 g2 hx
    try simp only [putsFrom, Act.put, qA, qB, qC, Nat.zero_add, Nat.reduceAdd, uv, List.getElem?_cons_zero, List.getElem?_cons_succ, List.take_succ_cons, List.take_zero, List.getD_cons_zero, List.getD_cons_succ]
    go_wp2_with fail
    have hR := HR.out
    subst hR
    exact ⟨rfl, fun _ => rfl, HXX.out⟩
  ·intro ms X hl hx
   obtain ⟨v0, v1, rfl⟩ := ls2 hl
   obtain ⟨rfl, ⟨a', c', rfl, ho'⟩, hbX⟩ := hx
   have hX := toW.out X hbX
   have ho2 := K.own_le ho' (show w.heap.size ≤ Y0.heap.size by have := HZ0.out; omega)
   simp only [putsFrom, Act.put, qA, qB, qC, Nat.zero_add, Nat.reduceAdd, uv, List.getElem?_cons_zero, List.getElem?_cons_succ, List.take_succ_cons, List.take_zero, List.getD_cons_zero, List.getD_cons_succ]
   clear hl
   generalize hm : o.bs.length = m at *
   have HM := hid hm
   clear hm
   go_wp2_with fail
   exact bodyPost_ret (v := .tuple #[.int .i64 c.target, .slice a' m c', .bool true]) (by simp [results, Tryz.results19, go_sem]) rfl ⟨hX, a', c', by rw [HM.out], by rw [HM.out]; exact ho2⟩
  ·exact fun _ _ _ _ hx => hx.elim
end Go.Proofs.YtekmadgacepdfaaGreat.U
namespace Go.Proofs.YtekmadgacepdfaaGreat.U
set_option linter.unusedVariables false
open Go.RowKit Fl Go.Maps
set_option linter.unusedSimpArgs false

theorem intInfo : (Tryz.prog.info? 3).map (fun i => (i.zero, i.size, i.bytes)) = some (some (.int .i64 0), 1, 8) := by kernel_rfl
theorem appZ {w : World} {base n : Nat} {a : Option Addr} {c : Nat} {xs : List Int} (y : Int) (hn : xs.length = n) (hown : w.ownsRow base 3 1 (.slice a n c) n (zCells xs)) (hbase : base ≤ w.heap.size) (hl : n ≤ 1000) :
  ∃ a' c' w', (∀ ty, (Builtin.append_ #[22, 22] ty #[.slice a n c, .slice (some ⟨w.heap.size, 0, none⟩) 1 1]).run Tryz.prog (w.alloc (.cells #[.int .i64 y] 3)) = .ok (.slice a' (n + 1) c') w') ∧
   w'.ownsRow base 3 1 (.slice a' (n + 1) c') (n + 1) (zCells (xs ++ [y])) ∧ Below base w w' ∧ w.grownBy w' (Value.slice a n c).ownBlock := by
 obtain ⟨i0, hi0, hz0, hzs, hzb⟩ := info_parts intInfo
 have hb1 : Below w.heap.size w (w.alloc (.cells #[.int .i64 y] 3)) := by (repeat (first | with_reducible exact Below.refl _ _ | ((with_reducible refine Below.alloc1 ?_ ?_ _); (· first | omega | (simp; done) | (simp; omega))) | (with_reducible refine Below.drew ?_) | (with_reducible refine below_drewN' ?_ _) | ((with_reducible refine Below.setCell1 ?_ ?_ _); (· first | omega | (simp; done) | (simp; omega))) | ((with_reducible refine Below.after (by assumption) ?_ ?_); (· first | omega | (simp; done) | (simp; omega)))))
 have hown1 := hown.kept (K.grown_of_below hb1) (by cases (Value.slice a n c).ownBlock <;> simp)
 obtain ⟨v', w', hr, h2, h3⟩ := run_append_own2 (P := Tryz.prog) (w.alloc (.cells #[.int .i64 y] 3)) base 22 3 i0 _ 1 8 Tryz.underlying22 hi0 hz0 hzs hzb rfl (by omega) _ _ _ hown1 ⟨w.heap.size, 0, none⟩ 1 1 [.int .i64 y] rfl
  (fun j u hj => by
   have hrow : (w.alloc (.cells #[.int .i64 y] 3)).heap[w.heap.size]? = some (.cells #[.int .i64 y] 3 (0, 0)) := heap_alloc_new w _
   rw [K.addr0, cell_of_row _ _ j _ _ (0, 0) hrow]
   rw [← hj]; simp) (by intro u hu; rw [List.mem_singleton.1 hu]; rfl) (by omega) (by unfold maxLen; omega) (by omega) (by simp; omega)
 have hc : zCells xs ++ [.int .i64 y] = zCells (xs ++ [y]) := by simp [zCells]
 rw [hc] at h2
 have hv : ∃ va vc, v' = .slice va (n + 1) vc := by
  rcases h2.2 with ⟨rfl, h4⟩ | ⟨g, cap, cur, rfl, _⟩
  ·omega
  ·exact ⟨_, _, rfl⟩
 obtain ⟨a', c', rfl⟩ := hv
 exact ⟨a', c', w', hr, h2, (hb1.mono hbase).grown h3.1 (by simp; omega) (fun k hk => (hown.lt k hk).1), (World.grownBy_alloc w _ _).trans h3.1⟩
def pick (ms : List Int) : Nat → List Int
 | 0 => []
 | n + 1 => if (ms.any fun x => decide ((n : Int) + 1 = x)) = true then pick ms n ++ [(n : Int) + 1] else pick ms n
theorem pick_len (ms : List Int) : ∀ n, (pick ms n).length ≤ n
 | 0 => Nat.le_refl _
 | n + 1 => by
  have := pick_len ms n
  unfold pick; split
  ·rw [List.length_append]; simp; omega
  ·omega
theorem pick_mem (ms : List Int) : ∀ n m, m ∈ pick ms n → 1 ≤ m ∧ m ≤ n
 | 0, m, h => by cases h
 | n + 1, m, h => by
  unfold pick at h
  split at h
  ·rcases List.mem_append.1 h with h | h
   ·have := pick_mem ms n m h; omega
   ·rw [List.mem_singleton.1 h]; omega
  ·have := pick_mem ms n m h; omega
def ring (ms : List Int) : List Int := if pick ms 7 = [] then [1] else pick ms 7
theorem ring_ok (ms : List Int) : 0 < (ring ms).length ∧ (ring ms).length ≤ 7 ∧ ∀ m ∈ ring ms, 1 ≤ m ∧ m ≤ 7 := by
 unfold ring
 split
 ·exact ⟨by simp, by simp, fun m hm => by rw [List.mem_singleton.1 hm]; omega⟩
 ·rename_i h
  exact ⟨List.length_pos_iff.2 h, pick_len ms 7, fun m hm => by have := pick_mem ms 7 m hm; omega⟩
def newD (session : Int) (ms : List Int) : CD := ⟨session, 0, ring ms, 0, [], []⟩
def NewRet (d : CD) (w : World) (e : Ending) (w' : World) : Prop := Below w.heap.size w w' ∧ ∃ p c, e = .returned (.pointer (some ⟨p, 0, none⟩)) ∧ CAt w.heap.size p c w' ∧ c.d = d
theorem new_at {w w1 : World} {session : Int} {ms : List Int} {a : Option Addr} {c : Nat} (hown : w1.ownsRow w.heap.size 3 1 (.slice a (ring ms).length c) (ring ms).length (zCells (ring ms))) (hb : Below w.heap.size w w1) (hs : -9223372036854775808 ≤ session ∧ session ≤ 9223372036854775807) :
  NewRet (newD session ms) w (.returned (.pointer (some ⟨w1.heap.size + 1, 0, none⟩))) ((w1.alloc (.map #[] 0)).alloc (.cells #[.int .i64 session, .int .i64 0, .slice a (ring ms).length c, .int .i64 0, .map (some w1.heap.size), .slice none 0 0] 90)) := by
 have hz := hb.size
 obtain ⟨r1, r2, r3⟩ := ring_ok ms
 refine ⟨(hb.alloc hz _).alloc (by simp; omega) _, w1.heap.size + 1, ⟨session, 0, ring ms, 0, [], [], a, c, w1.heap.size, none, 0⟩, rfl, ⟨?_, by omega, (hown.alloc _).alloc _, ?_, hz, (fun _ h => nomatch h), (fun _ h => nomatch h), List.Pairwise.nil, (fun _ h => nomatch h), ⟨Int.le_refl _, (by decide : (0 : Int) ≤ 1099511627776)⟩, World.ownsRow_nil _ _ _ _, rfl, r1, ⟨r2, r3⟩, hs⟩, rfl⟩
 ·have := heap_alloc_new (w1.alloc (.map #[] 0)) (.cells #[.int .i64 session, .int .i64 0, .slice a (ring ms).length c, .int .i64 0, .map (some w1.heap.size), .slice none 0 0] 90)
  show ((w1.alloc (.map #[] 0)).alloc (.cells #[.int .i64 session, .int .i64 0, .slice a (ring ms).length c, .int .i64 0, .map (some w1.heap.size), .slice none 0 0] 90)).heap[w1.heap.size + 1]? = some (.cells #[.int .i64 session, .int .i64 0, .slice a (ring ms).length c, .int .i64 0, .map (some w1.heap.size), .slice none 0 0] 90 (0, 0))
  simpa using this
 ·exact (World.ownsMap_made w1 Tryz.prog 2 heldR).alloc _
set_option maxHeartbeats 1000000 in
set_option maxRecDepth 100000 in
theorem new_any (session : Int) (a : Option Addr) (c n : Nat) (ms : List Int) (w : World) (hn : ms.length = n) (h : ZAt w a ms) (hs : -9223372036854775808 ≤ session ∧ session ≤ 9223372036854775807) :
  Calls Tryz.prog 12 #[.int .i64 session, .slice a n c] w (NewRet (newD session ms) w) := by
 have HZ := hid fun W (hb : Below w.heap.size w W) key => zContains_any a c key ms n W hn (h.below hb)
 have HS := hid hs
 clear h hn hs
 generalize hD : NewRet (newD session ms) w = D
 have HD := hid hD
 clear hD
 have hmm := fun w => run_makeMap (P := Tryz.prog) 88 w
 go_enter Tryz.func12, Tryz.ntmps12
 go_upto_region 3 with fail
 go_loopw [5, 7] (fun t5 t7 wr => ∃ (i q : Nat) (L : List Int) (a' : Option Addr) (c' : Nat), t7 = .int .i64 (i : Nat) ∧ t5 = .slice a' q c' ∧ i ≤ 7 ∧ q ≤ i ∧ Hid (L.length = q) ∧ Hid (L = pick ms i) ∧ Hid (wr.ownsRow w.heap.size 3 1 (.slice a' q c') q (zCells L)) ∧ Below w.heap.size w wr) (fun _ t7 _ => 7 - (intOf t7).toNat)
 case atStart => exact ⟨0, 0, [], none, 0, rfl, rfl, by omega, by omega, hid rfl, hid rfl, hid ⟨rfl, .inl ⟨rfl, rfl⟩⟩, Below.refl _ _⟩
 case round =>
  obtain ⟨i, q, L, a', c', rfl, rfl, hi, hqi, HLN, HL, HW, hb⟩ := hrel
  have hz := hb.size
  by_cases hlt : i < 7
  ·have hlt' : (i : Int) < 7 := by omega
   have H := HZ.out wr hb ((i : Int) + 1)
   cases hany : (ms.any fun x => decide ((i : Int) + 1 = x)) with
   | false =>
    rw [hany] at H
    have HL2 : Hid (L = pick ms (i + 1)) := hid (by unfold pick; rw [if_neg (by rw [hany]; decide)]; exact HL.out)
    clear hany
    go_wp2_with (go_at_call 40; (with_reducible refine (H).mono ?_); rintro e w' ⟨rfl, rfl⟩)
    go_roundw
    case rel => exact ⟨i + 1, q, L, a', c', by go_num, rfl, by omega, by omega, HLN, HL2, HW, hb⟩
    case measure => simp [intOf]; omega
   | true =>
    rw [hany] at H
    have HL2 : Hid (L ++ [(i : Int) + 1] = pick ms (i + 1)) := hid (by
     conv => rhs; unfold pick
     rw [if_pos hany, HL.out])
    clear hany
    obtain ⟨a2, c2, w2, hr, hown2, hb2, _⟩ := appZ ((i : Int) + 1) HLN.out HW.out hz (by omega)
    have HO2 := hid hown2
    clear hown2
    go_wp2_with (first | (go_at_call 40; (with_reducible refine (H).mono ?_); rintro e w' ⟨rfl, rfl⟩) | (at_builtin; refine Lib.wpList_append_run _ rfl _ _ _ _ rfl _ _ rfl rfl _ _ (hr _) ?_))
    go_roundw
    case rel => exact ⟨i + 1, q + 1, _, a2, c2, by go_num, rfl, by omega, by omega, hid (by rw [List.length_append, HLN.out]; rfl), HL2, HO2, hb.trans hb2⟩
    case measure => simp [intOf]; omega
  ·obtain rfl : i = 7 := by omega
   by_cases hq : q = 0
   ·subst hq
    have hp : pick ms 7 = [] := by rw [← HL.out]; exact List.eq_nil_of_length_eq_zero HLN.out
    have hring : ring ms = [1] := by unfold ring; rw [if_pos hp]
    have hb1 : Below wr.heap.size wr (wr.alloc (.cells #[.int .i64 1] 3)) := Below.alloc1 (Nat.le_refl _) (Below.refl _ _) _
    have hown1 : (wr.alloc (.cells #[.int .i64 1] 3)).ownsRow w.heap.size 3 1 (.slice (some ⟨wr.heap.size, 0, none⟩) 1 1) 1 (zCells [1]) := ⟨rfl, .inr ⟨wr.heap.size, 1, #[.int .i64 1], rfl, hz, heap_alloc_new wr _, Nat.le_refl _, by unfold maxLen; omega, rfl, rfl⟩⟩
    have hr1 : (ring ms).length = 1 := by rw [hring]; rfl
    have hfin := new_at (session := session) (ms := ms) (c := 1) (a := some ⟨wr.heap.size, 0, none⟩) (w := w) (w1 := wr.alloc (.cells #[.int .i64 1] 3)) (by rw [hr1, hring]; exact hown1) (hb.trans (hb1.mono hz)) HS.out
    rw [hr1, HD.out] at hfin
    have HFIN := hid hfin
    clear hp hring hb1 hown1 hr1 hfin
    go_wp2_with fail
    have h := HFIN.out
    simp [go_sem] at h
    exact h
   ·have hp : pick ms 7 ≠ [] := by
     intro h0
     have := HLN.out
     rw [HL.out, h0] at this
     simp at this; omega
    have hring : ring ms = L := by unfold ring; rw [if_neg hp, HL.out]
    have hr1 : (ring ms).length = q := by rw [hring]; exact HLN.out
    have hfin := new_at (session := session) (ms := ms) (c := c') (a := a') (w := w) (w1 := wr) (by rw [hr1, hring]; exact HW.out) hb HS.out
    rw [hr1, HD.out] at hfin
    have HFIN := hid hfin
    clear hp hring hr1 hfin
    have hq' : ¬ (q : Int) = 0 := by omega
    go_wp2_with fail
    exact HFIN.out
end Go.Proofs.YtekmadgacepdfaaGreat.U
