/- Several texts as one: KH KI KJ. -/
import Derived.Test.YtekmadgacepdfaaGreatQ0
import Derived.Test.YtekmadgacepdfaaGreatKG
import Derived.Deep.CutBlock
namespace Go.Proofs.YtekmadgacepdfaaGreat.K
set_option linter.unusedVariables false
set_option linter.unusedSimpArgs false
open Go.RowKit Fl

def wrongS (s : SpanV) : Bool := !(!isNaN s.lo && !isNaN s.hi)
theorem canon1_is (s : SpanV) (v : Bool) (hv : Hid (wrongS s = v)) (w : World) :
  Calls Tryz.prog 71 #[.agg #[.float .f64 s.lo, .float .f64 s.hi, .bool s.a, .bool s.b]] w (Ret (.bool v) w) := by
 have hv' := hv.out
 unfold wrongS at hv'
 subst hv'
 have H := fun W => right_any s.lo s.hi s.a s.b W
 generalize (!isNaN s.lo && !isNaN s.hi) = r at *
 go_enter Tryz.func71, Tryz.ntmps71
 go_wp2_with (go_at_call 72; (with_reducible refine (H _).mono ?_); rintro e w1 ⟨rfl, hb1⟩; obtain ⟨hc1, hf1⟩ := bcell hb1; (try simp only [qD, qE, qF] at hc1 hf1); have hz1 := hb1.size; (try simp at hz1); (try have hy1_0 : w.heap.size < w1.heap.size := by omega); (try have hy1_1 : w.heap.size + 1 < w1.heap.size := by omega); (try have hy1_2 : w.heap.size + 2 < w1.heap.size := by omega); (try have hy1_3 : w.heap.size + 3 < w1.heap.size := by omega); (try have hx1_0 : w.heap.size ≤ w1.heap.size := by omega); (try have hx1_1 : w.heap.size + 1 ≤ w1.heap.size := by omega); (try have hx1_2 : w.heap.size + 2 ≤ w1.heap.size := by omega))
 go_ret
 exact ⟨rfl, by exact below_auto⟩
theorem ixWrong_any (a : Option Addr) (c n : Nat) (ss : List SpanV) (w : World) (hn : ss.length = n) (h : SAt w a ss) :
  Calls Tryz.prog 120 #[.slice a n c, .func (.func 71) #[] #[]] w (Ret (.int .i64 (idxB wrongS ss)) w) := by
 obtain ⟨hr, hl, hm⟩ := h
 unfold maxLen at hm
 rcases hr with rfl | ⟨b, o, rfl, hb, hc⟩
 ·simp only [List.length_nil] at hn
  subst hn
  have e : idxB wrongS [] = -1 := rfl
  rw [e]
  clear hl e
  go_enter Tryz.func120, Tryz.ntmps120
  go_wp2
  go_loop [8] (fun i => i = .int .i64 0) (fun _ => 0)
  case atStart => rfl
  case round =>
   subst hrel
   go_wp2
   go_ret
   exact ⟨rfl, Below.refl _ _⟩
 ·have HC := hid hc; have HN := hid hn; have HL := hid hl
  rw [hn] at hm
  clear hc hn hl
  go_enter Tryz.func120, Tryz.ntmps120
  go_wp2
  go_loopw [8] (fun i wr => ∃ k : Nat, k ≤ n ∧ i = .int .i64 k ∧ Hid (∀ j : Nat, j < k → ∀ y, ss[j]? = some y → wrongS y = false) ∧ Below w.heap.size w wr) (fun i _ => n - (intOf i).toNat)
  case atStart => exact ⟨0, Nat.zero_le _, rfl, hid fun j hj => absurd hj (Nat.not_lt_zero _), Below.refl _ _⟩
  case round =>
   obtain ⟨k, hk, rfl, HR, hbw⟩ := hrel
   by_cases hlt : k < n
   ·obtain ⟨c0, c1, c2, c3⟩ := HC.out k (by rw [HN.out]; exact hlt)
    obtain ⟨l1, l2⟩ := HL.out k (by rw [HN.out]; exact hlt)
    have hlt' : (k : Int) < (n : Int) := by omega
    have hkx := hid (sp_some (ss := ss) (k := k) (by rw [HN.out]; exact hlt))
    have hsz := hbw.size
    have kk := fun j => hbw.cell (p := ⟨b, j, none⟩) hb
    have d0 := (kk _).trans c0; have d1 := (kk _).trans c1; have d2 := (kk _).trans c2; have d3 := (kk _).trans c3
    clear c0 c1 c2 c3 kk
    generalize ss[k]?.getD default = s at *
    have H := fun v hv W => canon1_is s v hv W
    cases hp : wrongS s
    ·have H1 := fun W => H false (hid hp) W
     have HP := hid hp
     clear hp H
     go_wp2_with (go_at_call 71; (with_reducible refine (H1 _).mono ?_); rintro e w1 ⟨rfl, hb1⟩; obtain ⟨hc1, hf1⟩ := bcell hb1; (try simp only [qD, qE, qF] at hc1 hf1); have hz1 := hb1.size; (try simp at hz1); (try have hy1_0 : w.heap.size < w1.heap.size := by omega); (try have hy1_1 : w.heap.size + 1 < w1.heap.size := by omega); (try have hy1_2 : w.heap.size + 2 < w1.heap.size := by omega); (try have hy1_3 : w.heap.size + 3 < w1.heap.size := by omega); (try have hx1_0 : w.heap.size ≤ w1.heap.size := by omega); (try have hx1_1 : w.heap.size + 1 ≤ w1.heap.size := by omega); (try have hx1_2 : w.heap.size + 2 ≤ w1.heap.size := by omega))
     go_roundw
     case rel => exact ⟨k + 1, by omega, by go_num, hid fun j hj y hy => by
       by_cases h : j < k
       ·exact HR.out j h y hy
       ·obtain rfl : j = k := by omega
        rw [hkx.out] at hy; cases hy; exact HP.out, by exact below_auto⟩
     case measure => simp [intOf]; omega
    ·have H1 := fun W => H true (hid hp) W
     have HP := hid hp
     clear hp H
     go_wp2_with (go_at_call 71; (with_reducible refine (H1 _).mono ?_); rintro e w1 ⟨rfl, hb1⟩; obtain ⟨hc1, hf1⟩ := bcell hb1; (try simp only [qD, qE, qF] at hc1 hf1); have hz1 := hb1.size; (try simp at hz1); (try have hy1_0 : w.heap.size < w1.heap.size := by omega); (try have hy1_1 : w.heap.size + 1 < w1.heap.size := by omega); (try have hy1_2 : w.heap.size + 2 < w1.heap.size := by omega); (try have hy1_3 : w.heap.size + 3 < w1.heap.size := by omega); (try have hx1_0 : w.heap.size ≤ w1.heap.size := by omega); (try have hx1_1 : w.heap.size + 1 ≤ w1.heap.size := by omega); (try have hx1_2 : w.heap.size + 2 ≤ w1.heap.size := by omega))
     go_ret
     exact ⟨ret_int (by rw [idxB_some (p := wrongS) hkx.out HP.out HR.out]), by exact below_auto⟩
   ·obtain rfl : k = n := by omega
    go_wp2
    go_ret
    refine ⟨ret_int ?_, by exact below_auto⟩
    rw [idxB_none]
    intro i x hx
    refine HR.out i ?_ x hx
    have := (List.getElem?_eq_some_iff.1 hx).1
    have := HN.out
    omega
theorem hasWrong_any (a : Option Addr) (c n : Nat) (ss : List SpanV) (v : Bool) (w : World) (hn : ss.length = n) (h : SAt w a ss) (hv : ss.any wrongS = v) :
  Calls Tryz.prog 70 #[.slice a n c, .func (.func 71) #[] #[]] w (Ret (.bool v) w) := by
 have H := ixWrong_any a c n ss w hn h
 rw [← idxB_any] at hv
 generalize idxB wrongS ss = r at *
 have hn' := hid hn
 clear hn
 go_enter Tryz.func70, Tryz.ntmps70
 go_wp2_with (go_at_call 120; (with_reducible refine (H).mono ?_); rintro e w1 ⟨rfl, hb1⟩; obtain ⟨hc1, hf1⟩ := bcell hb1; (try simp only [qD, qE, qF] at hc1 hf1); have hz1 := hb1.size; (try simp at hz1); (try have hy1_0 : w.heap.size < w1.heap.size := by omega); (try have hy1_1 : w.heap.size + 1 < w1.heap.size := by omega); (try have hy1_2 : w.heap.size + 2 < w1.heap.size := by omega); (try have hy1_3 : w.heap.size + 3 < w1.heap.size := by omega); (try have hx1_0 : w.heap.size ≤ w1.heap.size := by omega); (try have hx1_1 : w.heap.size + 1 ≤ w1.heap.size := by omega); (try have hx1_2 : w.heap.size + 2 ≤ w1.heap.size := by omega))
 go_ret
 exact ⟨ret_bool (by rw [← hv]), by exact below_auto⟩

def OwnF (B : Nat) (L : List Nat) (v : Value) (w : World) : Prop := (∃ a c, v = .slice a L.length c) ∧ w.ownsRow B 64 1 v L.length (fCells L)
theorem OwnF.below {B : Nat} {L : List Nat} {v : Value} {w w' : World} (h : OwnF B L v w) (hb : Below w.heap.size w w') : OwnF B L v w' := ⟨h.1, h.2.kept (grown_of_below hb) (by cases v.ownBlock <;> simp)⟩
def OwnS (B : Nat) (G : List RK) (v : Value) (w : World) : Prop := (∃ a c, v = .slice a G.length c) ∧ w.ownsRow B 121 4 v G.length (N.sCells G)
theorem OwnS.below {B : Nat} {G : List RK} {v : Value} {w w' : World} (h : OwnS B G v w) (hb : Below w.heap.size w w') : OwnS B G v w' := ⟨h.1, h.2.kept (grown_of_below hb) (by cases v.ownBlock <;> simp)⟩

def OutAgg (B : Nat) (s0 s1 s2 : Int) (L1 L3 : List Nat) (G : List RK) (v : Value) (w : World) : Prop := ∃ v1 v2 v3, v = .agg #[.int .i64 s0, .int .i64 s1, .int .i64 s2, v1, v2, v3] ∧ OwnF B L1 v1 w ∧ OwnS B G v2 w ∧ OwnF B L3 v3 w
theorem OutAgg.mk {B : Nat} {s0 s1 s2 : Int} {L1 L3 : List Nat} {G : List RK} {v1 v2 v3 : Value} {w : World} (h1 : OwnF B L1 v1 w) (h2 : OwnS B G v2 w) (h3 : OwnF B L3 v3 w) : OutAgg B s0 s1 s2 L1 L3 G (.agg #[.int .i64 s0, .int .i64 s1, .int .i64 s2, v1, v2, v3]) w := ⟨v1, v2, v3, rfl, h1, h2, h3⟩
theorem OutAgg.below {B : Nat} {s0 s1 s2 : Int} {L1 L3 : List Nat} {G : List RK} {v : Value} {w w' : World} (h : OutAgg B s0 s1 s2 L1 L3 G v w) (hb : Below w.heap.size w w') : OutAgg B s0 s1 s2 L1 L3 G v w' := by
 obtain ⟨v1, v2, v3, h0, h1, h2, h3⟩ := h
 exact ⟨v1, v2, v3, h0, h1.below hb, h2.below hb, h3.below hb⟩
def PtrBox (B : Nat) (cs : List Value) (v : Value) (w : World) : Prop := ∃ g, v = .pointer (some ⟨g, 0, none⟩) ∧ B ≤ g ∧ g < w.heap.size ∧ w.heap[g]? = some (.cells cs.toArray 35 (0, 0))
theorem PtrBox.mk {B g : Nat} {cs : List Value} {w : World} (h1 : B ≤ g) (h2 : g < w.heap.size) (h3 : w.heap[g]? = some (.cells cs.toArray 35 (0, 0))) : PtrBox B cs (.pointer (some ⟨g, 0, none⟩)) w := ⟨g, rfl, h1, h2, h3⟩
theorem PtrBox.below {B : Nat} {cs : List Value} {v : Value} {w w' : World} (h : PtrBox B cs v w) (hb : Below w.heap.size w w') : PtrBox B cs v w' := by
 obtain ⟨g, h0, h1, h2, h3⟩ := h
 exact ⟨g, h0, h1, Nat.lt_of_lt_of_le h2 hb.size, (hb.block g h2).trans h3⟩
theorem OwnF.set {B g : Nat} {L : List Nat} {v : Value} {w w' : World} {cs : Array Value} (h : OwnF B L v w) (hg : w.grownBy w' (some g)) (hh : w.heap[g]? = some (.cells cs 35 (0, 0))) : OwnF B L v w' := by
 refine ⟨h.1, h.2.kept hg (.inr fun e => ?_)⟩
 rcases h.2.2 with ⟨h1, _⟩ | ⟨g', cap, cur, h1, _, hb, _⟩
 ·rw [h1] at e; cases e
 ·rw [h1] at e
  cases e
  rw [hh] at hb
  simp at hb
theorem OwnS.set {B g : Nat} {G : List RK} {v : Value} {w w' : World} {cs : Array Value} (h : OwnS B G v w) (hg : w.grownBy w' (some g)) (hh : w.heap[g]? = some (.cells cs 35 (0, 0))) : OwnS B G v w' := by
 refine ⟨h.1, h.2.kept hg (.inr fun e => ?_)⟩
 rcases h.2.2 with ⟨h1, _⟩ | ⟨g', cap, cur, h1, _, hb, _⟩
 ·rw [h1] at e; cases e
 ·rw [h1] at e
  cases e
  rw [hh] at hb
  simp at hb
def CanRet (w : World) (s0 s1 s2 : Int) (L1 L3 : List Nat) (G : List RK) (code : Int) (e : Ending) (w' : World) : Prop :=
 Below w.heap.size w w' ∧ ((code = 0 ∧ ∃ v1 v2 v3, e = .returned (.tuple #[.agg #[.int .i64 s0, .int .i64 s1, .int .i64 s2, v1, v2, v3], .int .i64 0]) ∧ OwnF w.heap.size L1 v1 w' ∧ OwnS w.heap.size G v2 w' ∧ OwnF w.heap.size L3 v3 w') ∨
  (code ≠ 0 ∧ e = .returned (.tuple #[.agg #[.int .i64 0, .int .i64 0, .int .i64 0, .slice none 0 0, .slice none 0 0, .slice none 0 0], .int .i64 code])))
def canI (wr : Bool) (V : Int) : Int := if wr = true ∧ V = 0 then 41 else V

set_option maxHeartbeats 4000000 in
set_option maxRecDepth 100000 in
theorem canon_w (s0 s1 s2 : Int) (ra sa wa : Option Addr) (n1 n2 n3 rc sc wc : Nat) (L1 L3 : List Nat) (G : List RK) (wr : Bool) (V : Int) (w : World) (hV : V = 43 ∨ V = 3 ∨ V = 40 ∨ V = 0)
  (Hs1 : ∀ W, Below w.heap.size w W → Calls Tryz.prog 68 #[.slice ra n1 rc] W fun e W' => ∃ v, e = .returned v ∧ OwnF w.heap.size L1 v W' ∧ Below W.heap.size W W')
  (Hs3 : ∀ W, Below w.heap.size w W → Calls Tryz.prog 68 #[.slice wa n3 wc] W fun e W' => ∃ v, e = .returned v ∧ OwnF w.heap.size L3 v W' ∧ Below W.heap.size W W')
  (HNm : ∀ W, Below w.heap.size w W → Calls Tryz.prog 69 #[.slice sa n2 sc] W fun e W' => ∃ v, e = .returned v ∧ OwnS w.heap.size G v W' ∧ Below W.heap.size W W')
  (Hw : ∀ W, Below w.heap.size w W → Calls Tryz.prog 70 #[.slice sa n2 sc, .func (.func 71) #[] #[]] W (Ret (.bool wr) W))
  (Hc : ∀ (v1 v2 v3 : Value) (W : World), OwnF w.heap.size L1 v1 W → OwnS w.heap.size G v2 W → OwnF w.heap.size L3 v3 W → Calls Tryz.prog 54 #[.agg #[.int .i64 s0, .int .i64 s1, .int .i64 s2, v1, v2, v3]] W (Ret (.int .i64 V) W)) :
  Calls Tryz.prog 42 #[.agg #[.int .i64 s0, .int .i64 s1, .int .i64 s2, .slice ra n1 rc, .slice sa n2 sc, .slice wa n3 wc]] w (CanRet w s0 s1 s2 L1 L3 G (canI wr V)) := by
 go_enter Tryz.func42, Tryz.ntmps42
 go_upto_region 1 with fail
 generalize hW0 : World.alloc _ _ = w0 at *
 have hA : Below w.heap.size w w0 := by rw [← hW0]; exact below_auto
 have hz0 : w.heap.size + 1 < w0.heap.size := by rw [← hW0]; simp
 have hz00 : w.heap.size < w0.heap.size := by omega
 have b0 : w0.cell? ⟨w.heap.size, 0, none⟩ = some (.int .i64 s0) := by rw [← hW0]; simp [go_sem]
 have b1 : w0.cell? ⟨w.heap.size, 1, none⟩ = some (.int .i64 s1) := by rw [← hW0]; simp [go_sem]
 have b2 : w0.cell? ⟨w.heap.size, 2, none⟩ = some (.int .i64 s2) := by rw [← hW0]; simp [go_sem]
 have b3 : w0.cell? ⟨w.heap.size, 3, none⟩ = some (.slice ra n1 rc) := by rw [← hW0]; simp [go_sem]
 have b4 : w0.cell? ⟨w.heap.size, 4, none⟩ = some (.slice sa n2 sc) := by rw [← hW0]; simp [go_sem]
 have b5 : w0.cell? ⟨w.heap.size, 5, none⟩ = some (.slice wa n3 wc) := by rw [← hW0]; simp [go_sem]
 have hr0 : w0.heap[w.heap.size + 1]? = some (.cells #[.int .i64 0, .int .i64 0, .int .i64 0, .slice none 0 0, .slice none 0 0, .slice none 0 0] 35 (0, 0)) := by
  rw [← hW0]
  have := heap_alloc_new (w.alloc (.cells #[.int .i64 s0, .int .i64 s1, .int .i64 s2, .slice ra n1 rc, .slice sa n2 sc, .slice wa n3 wc] 35)) (.cells #[.int .i64 0, .int .i64 0, .int .i64 0, .slice none 0 0, .slice none 0 0, .slice none 0 0] 35)
  simpa using this
 clear hW0
 refine wp_region_notes [Note.val (.pointer (some ⟨w.heap.size, 0, none⟩)), Note.val (.int .i64 s0), Note.val (.pointer (some ⟨w.heap.size, 1, none⟩)), Note.val (.int .i64 s1), Note.val (.pointer (some ⟨w.heap.size, 2, none⟩)), Note.val (.int .i64 s2), Note.val (.pointer (some ⟨w.heap.size, 3, none⟩)), Note.val (.slice ra n1 rc), Note.fits (OwnF w.heap.size L1) (fun _ _ _ h hb => h.below hb), Note.val (.pointer (some ⟨w.heap.size, 4, none⟩)), Note.val (.slice sa n2 sc), Note.fits (OwnS w.heap.size G) (fun _ _ _ h hb => h.below hb), Note.val (.pointer (some ⟨w.heap.size, 5, none⟩)), Note.val (.slice wa n3 wc), Note.fits (OwnF w.heap.size L3) (fun _ _ _ h hb => h.below hb), Note.fits (OutAgg w.heap.size s0 s1 s2 L1 L3 G) (fun _ _ _ h hb => h.below hb), Note.fits (PtrBox w0.heap.size [.int .i64 0, .int .i64 0, .int .i64 0, .slice none 0 0, .slice none 0 0, .slice none 0 0]) (fun _ _ _ h hb => h.below hb)] rfl (by kernel_rfl) (by kernel_rfl) ?_ ?_
 ·simp only [List.length_cons, List.length_nil, Nat.reduceAdd, List.take_succ_cons, List.take_zero, StepsN, List.nil_append, List.cons_append]
  refine ⟨?_, ?_, ?_, ?_, ?_, ?_, ?_, ?_, ?_, ?_, ?_, ?_, ?_, ?_, ?_, ?_, ?_, trivial⟩
  ·intro u w5 hb5 hd
   obtain ⟨hc5, hf5⟩ := bcell hb5
   (try simp only [qD, qE, qF] at hc5 hf5)
   have hz5 := hb5.size
   (try simp at hz5)
   (try have hy5_0 : w.heap.size < w5.heap.size := by omega)
   (try have hy5_1 : w.heap.size + 1 < w5.heap.size := by omega)
   (try have hy5_2 : w.heap.size + 2 < w5.heap.size := by omega)
   (try have hy5_3 : w.heap.size + 3 < w5.heap.size := by omega)
   (try have hx5_0 : w.heap.size ≤ w5.heap.size := by omega)
   (try have hx5_1 : w.heap.size + 1 ≤ w5.heap.size := by omega)
   (try have hx5_2 : w.heap.size + 2 ≤ w5.heap.size := by omega)
   (try (simp [Region.binds, Note.phi, cellsAre] at hd))
   revert hd
   (try simp only [putsFrom, Act.put, qA, qB, qC, Nat.zero_add, Nat.reduceAdd])
   ((try simp only [forall_exists_index, and_imp]); intros)
   clear u
   go_wp2_with (first | (go_at_call 68; (with_reducible refine (Hs1 _ (by exact below_auto)).mono ?_); rintro e wy ⟨vy, rfl, hpy, hby⟩) | (go_at_call 68; (with_reducible refine (Hs3 _ (by exact below_auto)).mono ?_); rintro e wy ⟨vy, rfl, hpy, hby⟩) | (go_at_call 69; (with_reducible refine (HNm _ (by exact below_auto)).mono ?_); rintro e wy ⟨vy, rfl, hpy, hby⟩))
   exact ⟨rfl, by exact below_auto, rfl⟩
  ·intro u w5 hb5 hd
   obtain ⟨hc5, hf5⟩ := bcell hb5
   (try simp only [qD, qE, qF] at hc5 hf5)
   have hz5 := hb5.size
   (try simp at hz5)
   (try have hy5_0 : w.heap.size < w5.heap.size := by omega)
   (try have hy5_1 : w.heap.size + 1 < w5.heap.size := by omega)
   (try have hy5_2 : w.heap.size + 2 < w5.heap.size := by omega)
   (try have hy5_3 : w.heap.size + 3 < w5.heap.size := by omega)
   (try have hx5_0 : w.heap.size ≤ w5.heap.size := by omega)
   (try have hx5_1 : w.heap.size + 1 ≤ w5.heap.size := by omega)
   (try have hx5_2 : w.heap.size + 2 ≤ w5.heap.size := by omega)
   (try (simp [Region.binds, Note.phi, cellsAre] at hd))
   revert hd
   (try simp only [putsFrom, Act.put, qA, qB, qC, Nat.zero_add, Nat.reduceAdd])
   generalize u 0 = u0
   ((try simp only [forall_exists_index, and_imp]); intros)
   (try subst u0)
   clear u
   go_wp2_with (first | (go_at_call 68; (with_reducible refine (Hs1 _ (by exact below_auto)).mono ?_); rintro e wy ⟨vy, rfl, hpy, hby⟩) | (go_at_call 68; (with_reducible refine (Hs3 _ (by exact below_auto)).mono ?_); rintro e wy ⟨vy, rfl, hpy, hby⟩) | (go_at_call 69; (with_reducible refine (HNm _ (by exact below_auto)).mono ?_); rintro e wy ⟨vy, rfl, hpy, hby⟩))
   exact ⟨rfl, by exact below_auto, rfl⟩
  ·intro u w5 hb5 hd
   obtain ⟨hc5, hf5⟩ := bcell hb5
   (try simp only [qD, qE, qF] at hc5 hf5)
   have hz5 := hb5.size
   (try simp at hz5)
   (try have hy5_0 : w.heap.size < w5.heap.size := by omega)
   (try have hy5_1 : w.heap.size + 1 < w5.heap.size := by omega)
   (try have hy5_2 : w.heap.size + 2 < w5.heap.size := by omega)
   (try have hy5_3 : w.heap.size + 3 < w5.heap.size := by omega)
   (try have hx5_0 : w.heap.size ≤ w5.heap.size := by omega)
   (try have hx5_1 : w.heap.size + 1 ≤ w5.heap.size := by omega)
   (try have hx5_2 : w.heap.size + 2 ≤ w5.heap.size := by omega)
   (try (simp [Region.binds, Note.phi, cellsAre] at hd))
   revert hd
   (try simp only [putsFrom, Act.put, qA, qB, qC, Nat.zero_add, Nat.reduceAdd])
   generalize u 0 = u0
   generalize u 1 = u1
   ((try simp only [forall_exists_index, and_imp]); intros)
   (try subst u0)
   (try subst u1)
   clear u
   go_wp2_with (first | (go_at_call 68; (with_reducible refine (Hs1 _ (by exact below_auto)).mono ?_); rintro e wy ⟨vy, rfl, hpy, hby⟩) | (go_at_call 68; (with_reducible refine (Hs3 _ (by exact below_auto)).mono ?_); rintro e wy ⟨vy, rfl, hpy, hby⟩) | (go_at_call 69; (with_reducible refine (HNm _ (by exact below_auto)).mono ?_); rintro e wy ⟨vy, rfl, hpy, hby⟩))
   exact ⟨rfl, by exact below_auto, rfl⟩
  ·intro u w5 hb5 hd
   obtain ⟨hc5, hf5⟩ := bcell hb5
   (try simp only [qD, qE, qF] at hc5 hf5)
   have hz5 := hb5.size
   (try simp at hz5)
   (try have hy5_0 : w.heap.size < w5.heap.size := by omega)
   (try have hy5_1 : w.heap.size + 1 < w5.heap.size := by omega)
   (try have hy5_2 : w.heap.size + 2 < w5.heap.size := by omega)
   (try have hy5_3 : w.heap.size + 3 < w5.heap.size := by omega)
   (try have hx5_0 : w.heap.size ≤ w5.heap.size := by omega)
   (try have hx5_1 : w.heap.size + 1 ≤ w5.heap.size := by omega)
   (try have hx5_2 : w.heap.size + 2 ≤ w5.heap.size := by omega)
   (try (simp [Region.binds, Note.phi, cellsAre] at hd))
   revert hd
   (try simp only [putsFrom, Act.put, qA, qB, qC, Nat.zero_add, Nat.reduceAdd])
   generalize u 0 = u0
   generalize u 1 = u1
   generalize u 2 = u2
   ((try simp only [forall_exists_index, and_imp]); intros)
   (try subst u0)
   (try subst u1)
   (try subst u2)
   clear u
   go_wp2_with (first | (go_at_call 68; (with_reducible refine (Hs1 _ (by exact below_auto)).mono ?_); rintro e wy ⟨vy, rfl, hpy, hby⟩) | (go_at_call 68; (with_reducible refine (Hs3 _ (by exact below_auto)).mono ?_); rintro e wy ⟨vy, rfl, hpy, hby⟩) | (go_at_call 69; (with_reducible refine (HNm _ (by exact below_auto)).mono ?_); rintro e wy ⟨vy, rfl, hpy, hby⟩))
   exact ⟨rfl, by exact below_auto, rfl⟩
  ·intro u w5 hb5 hd
   obtain ⟨hc5, hf5⟩ := bcell hb5
   (try simp only [qD, qE, qF] at hc5 hf5)
   have hz5 := hb5.size
   (try simp at hz5)
   (try have hy5_0 : w.heap.size < w5.heap.size := by omega)
   (try have hy5_1 : w.heap.size + 1 < w5.heap.size := by omega)
   (try have hy5_2 : w.heap.size + 2 < w5.heap.size := by omega)
   (try have hy5_3 : w.heap.size + 3 < w5.heap.size := by omega)
   (try have hx5_0 : w.heap.size ≤ w5.heap.size := by omega)
   (try have hx5_1 : w.heap.size + 1 ≤ w5.heap.size := by omega)
   (try have hx5_2 : w.heap.size + 2 ≤ w5.heap.size := by omega)
   (try (simp [Region.binds, Note.phi, cellsAre] at hd))
   revert hd
   (try simp only [putsFrom, Act.put, qA, qB, qC, Nat.zero_add, Nat.reduceAdd])
   generalize u 0 = u0
   generalize u 1 = u1
   generalize u 2 = u2
   generalize u 3 = u3
   ((try simp only [forall_exists_index, and_imp]); intros)
   (try subst u0)
   (try subst u1)
   (try subst u2)
   (try subst u3)
   clear u
   go_wp2_with (first | (go_at_call 68; (with_reducible refine (Hs1 _ (by exact below_auto)).mono ?_); rintro e wy ⟨vy, rfl, hpy, hby⟩) | (go_at_call 68; (with_reducible refine (Hs3 _ (by exact below_auto)).mono ?_); rintro e wy ⟨vy, rfl, hpy, hby⟩) | (go_at_call 69; (with_reducible refine (HNm _ (by exact below_auto)).mono ?_); rintro e wy ⟨vy, rfl, hpy, hby⟩))
   exact ⟨rfl, by exact below_auto, rfl⟩
  ·intro u w5 hb5 hd
   obtain ⟨hc5, hf5⟩ := bcell hb5
   (try simp only [qD, qE, qF] at hc5 hf5)
   have hz5 := hb5.size
   (try simp at hz5)
   (try have hy5_0 : w.heap.size < w5.heap.size := by omega)
   (try have hy5_1 : w.heap.size + 1 < w5.heap.size := by omega)
   (try have hy5_2 : w.heap.size + 2 < w5.heap.size := by omega)
   (try have hy5_3 : w.heap.size + 3 < w5.heap.size := by omega)
   (try have hx5_0 : w.heap.size ≤ w5.heap.size := by omega)
   (try have hx5_1 : w.heap.size + 1 ≤ w5.heap.size := by omega)
   (try have hx5_2 : w.heap.size + 2 ≤ w5.heap.size := by omega)
   (try (simp [Region.binds, Note.phi, cellsAre] at hd))
   revert hd
   (try simp only [putsFrom, Act.put, qA, qB, qC, Nat.zero_add, Nat.reduceAdd])
   generalize u 0 = u0
   generalize u 1 = u1
   generalize u 2 = u2
   generalize u 3 = u3
   generalize u 4 = u4
   ((try simp only [forall_exists_index, and_imp]); intros)
   (try subst u0)
   (try subst u1)
   (try subst u2)
   (try subst u3)
   (try subst u4)
   clear u
   go_wp2_with (first | (go_at_call 68; (with_reducible refine (Hs1 _ (by exact below_auto)).mono ?_); rintro e wy ⟨vy, rfl, hpy, hby⟩) | (go_at_call 68; (with_reducible refine (Hs3 _ (by exact below_auto)).mono ?_); rintro e wy ⟨vy, rfl, hpy, hby⟩) | (go_at_call 69; (with_reducible refine (HNm _ (by exact below_auto)).mono ?_); rintro e wy ⟨vy, rfl, hpy, hby⟩))
   exact ⟨rfl, by exact below_auto, rfl⟩
  ·intro u w5 hb5 hd
   obtain ⟨hc5, hf5⟩ := bcell hb5
   (try simp only [qD, qE, qF] at hc5 hf5)
   have hz5 := hb5.size
   (try simp at hz5)
   (try have hy5_0 : w.heap.size < w5.heap.size := by omega)
   (try have hy5_1 : w.heap.size + 1 < w5.heap.size := by omega)
   (try have hy5_2 : w.heap.size + 2 < w5.heap.size := by omega)
   (try have hy5_3 : w.heap.size + 3 < w5.heap.size := by omega)
   (try have hx5_0 : w.heap.size ≤ w5.heap.size := by omega)
   (try have hx5_1 : w.heap.size + 1 ≤ w5.heap.size := by omega)
   (try have hx5_2 : w.heap.size + 2 ≤ w5.heap.size := by omega)
   (try (simp [Region.binds, Note.phi, cellsAre] at hd))
   revert hd
   (try simp only [putsFrom, Act.put, qA, qB, qC, Nat.zero_add, Nat.reduceAdd])
   generalize u 0 = u0
   generalize u 1 = u1
   generalize u 2 = u2
   generalize u 3 = u3
   generalize u 4 = u4
   generalize u 5 = u5
   ((try simp only [forall_exists_index, and_imp]); intros)
   (try subst u0)
   (try subst u1)
   (try subst u2)
   (try subst u3)
   (try subst u4)
   (try subst u5)
   clear u
   go_wp2_with (first | (go_at_call 68; (with_reducible refine (Hs1 _ (by exact below_auto)).mono ?_); rintro e wy ⟨vy, rfl, hpy, hby⟩) | (go_at_call 68; (with_reducible refine (Hs3 _ (by exact below_auto)).mono ?_); rintro e wy ⟨vy, rfl, hpy, hby⟩) | (go_at_call 69; (with_reducible refine (HNm _ (by exact below_auto)).mono ?_); rintro e wy ⟨vy, rfl, hpy, hby⟩))
   exact ⟨rfl, by exact below_auto, rfl⟩
  ·intro u w5 hb5 hd
   obtain ⟨hc5, hf5⟩ := bcell hb5
   (try simp only [qD, qE, qF] at hc5 hf5)
   have hz5 := hb5.size
   (try simp at hz5)
   (try have hy5_0 : w.heap.size < w5.heap.size := by omega)
   (try have hy5_1 : w.heap.size + 1 < w5.heap.size := by omega)
   (try have hy5_2 : w.heap.size + 2 < w5.heap.size := by omega)
   (try have hy5_3 : w.heap.size + 3 < w5.heap.size := by omega)
   (try have hx5_0 : w.heap.size ≤ w5.heap.size := by omega)
   (try have hx5_1 : w.heap.size + 1 ≤ w5.heap.size := by omega)
   (try have hx5_2 : w.heap.size + 2 ≤ w5.heap.size := by omega)
   (try (simp [Region.binds, Note.phi, cellsAre] at hd))
   revert hd
   (try simp only [putsFrom, Act.put, qA, qB, qC, Nat.zero_add, Nat.reduceAdd])
   generalize u 0 = u0
   generalize u 1 = u1
   generalize u 2 = u2
   generalize u 3 = u3
   generalize u 4 = u4
   generalize u 5 = u5
   generalize u 6 = u6
   ((try simp only [forall_exists_index, and_imp]); intros)
   (try subst u0)
   (try subst u1)
   (try subst u2)
   (try subst u3)
   (try subst u4)
   (try subst u5)
   (try subst u6)
   clear u
   go_wp2_with (first | (go_at_call 68; (with_reducible refine (Hs1 _ (by exact below_auto)).mono ?_); rintro e wy ⟨vy, rfl, hpy, hby⟩) | (go_at_call 68; (with_reducible refine (Hs3 _ (by exact below_auto)).mono ?_); rintro e wy ⟨vy, rfl, hpy, hby⟩) | (go_at_call 69; (with_reducible refine (HNm _ (by exact below_auto)).mono ?_); rintro e wy ⟨vy, rfl, hpy, hby⟩))
   exact ⟨rfl, by exact below_auto, rfl⟩
  ·intro u w5 hb5 hd
   obtain ⟨hc5, hf5⟩ := bcell hb5
   (try simp only [qD, qE, qF] at hc5 hf5)
   have hz5 := hb5.size
   (try simp at hz5)
   (try have hy5_0 : w.heap.size < w5.heap.size := by omega)
   (try have hy5_1 : w.heap.size + 1 < w5.heap.size := by omega)
   (try have hy5_2 : w.heap.size + 2 < w5.heap.size := by omega)
   (try have hy5_3 : w.heap.size + 3 < w5.heap.size := by omega)
   (try have hx5_0 : w.heap.size ≤ w5.heap.size := by omega)
   (try have hx5_1 : w.heap.size + 1 ≤ w5.heap.size := by omega)
   (try have hx5_2 : w.heap.size + 2 ≤ w5.heap.size := by omega)
   (try (simp [Region.binds, Note.phi, cellsAre] at hd))
   revert hd
   (try simp only [putsFrom, Act.put, qA, qB, qC, Nat.zero_add, Nat.reduceAdd])
   generalize u 0 = u0
   generalize u 1 = u1
   generalize u 2 = u2
   generalize u 3 = u3
   generalize u 4 = u4
   generalize u 5 = u5
   generalize u 6 = u6
   generalize u 7 = u7
   ((try simp only [forall_exists_index, and_imp]); intros)
   (try subst u0)
   (try subst u1)
   (try subst u2)
   (try subst u3)
   (try subst u4)
   (try subst u5)
   (try subst u6)
   (try subst u7)
   clear u
   go_wp2_with (first | (go_at_call 68; (with_reducible refine (Hs1 _ (by exact below_auto)).mono ?_); rintro e wy ⟨vy, rfl, hpy, hby⟩) | (go_at_call 68; (with_reducible refine (Hs3 _ (by exact below_auto)).mono ?_); rintro e wy ⟨vy, rfl, hpy, hby⟩) | (go_at_call 69; (with_reducible refine (HNm _ (by exact below_auto)).mono ?_); rintro e wy ⟨vy, rfl, hpy, hby⟩))
   exact ⟨rfl, by exact below_auto, by assumption⟩
  ·intro u w5 hb5 hd
   obtain ⟨hc5, hf5⟩ := bcell hb5
   (try simp only [qD, qE, qF] at hc5 hf5)
   have hz5 := hb5.size
   (try simp at hz5)
   (try have hy5_0 : w.heap.size < w5.heap.size := by omega)
   (try have hy5_1 : w.heap.size + 1 < w5.heap.size := by omega)
   (try have hy5_2 : w.heap.size + 2 < w5.heap.size := by omega)
   (try have hy5_3 : w.heap.size + 3 < w5.heap.size := by omega)
   (try have hx5_0 : w.heap.size ≤ w5.heap.size := by omega)
   (try have hx5_1 : w.heap.size + 1 ≤ w5.heap.size := by omega)
   (try have hx5_2 : w.heap.size + 2 ≤ w5.heap.size := by omega)
   (try (simp [Region.binds, Note.phi, cellsAre] at hd))
   revert hd
   (try simp only [putsFrom, Act.put, qA, qB, qC, Nat.zero_add, Nat.reduceAdd])
   generalize u 0 = u0
   generalize u 1 = u1
   generalize u 2 = u2
   generalize u 3 = u3
   generalize u 4 = u4
   generalize u 5 = u5
   generalize u 6 = u6
   generalize u 7 = u7
   generalize u 8 = u8
   ((try simp only [forall_exists_index, and_imp]); intros)
   (try subst u0)
   (try subst u1)
   (try subst u2)
   (try subst u3)
   (try subst u4)
   (try subst u5)
   (try subst u6)
   (try subst u7)
   (try subst u8)
   clear u
   go_wp2_with (first | (go_at_call 68; (with_reducible refine (Hs1 _ (by exact below_auto)).mono ?_); rintro e wy ⟨vy, rfl, hpy, hby⟩) | (go_at_call 68; (with_reducible refine (Hs3 _ (by exact below_auto)).mono ?_); rintro e wy ⟨vy, rfl, hpy, hby⟩) | (go_at_call 69; (with_reducible refine (HNm _ (by exact below_auto)).mono ?_); rintro e wy ⟨vy, rfl, hpy, hby⟩))
   exact ⟨rfl, by exact below_auto, rfl⟩
  ·intro u w5 hb5 hd
   obtain ⟨hc5, hf5⟩ := bcell hb5
   (try simp only [qD, qE, qF] at hc5 hf5)
   have hz5 := hb5.size
   (try simp at hz5)
   (try have hy5_0 : w.heap.size < w5.heap.size := by omega)
   (try have hy5_1 : w.heap.size + 1 < w5.heap.size := by omega)
   (try have hy5_2 : w.heap.size + 2 < w5.heap.size := by omega)
   (try have hy5_3 : w.heap.size + 3 < w5.heap.size := by omega)
   (try have hx5_0 : w.heap.size ≤ w5.heap.size := by omega)
   (try have hx5_1 : w.heap.size + 1 ≤ w5.heap.size := by omega)
   (try have hx5_2 : w.heap.size + 2 ≤ w5.heap.size := by omega)
   (try (simp [Region.binds, Note.phi, cellsAre] at hd))
   revert hd
   (try simp only [putsFrom, Act.put, qA, qB, qC, Nat.zero_add, Nat.reduceAdd])
   generalize u 0 = u0
   generalize u 1 = u1
   generalize u 2 = u2
   generalize u 3 = u3
   generalize u 4 = u4
   generalize u 5 = u5
   generalize u 6 = u6
   generalize u 7 = u7
   generalize u 8 = u8
   generalize u 9 = u9
   ((try simp only [forall_exists_index, and_imp]); intros)
   (try subst u0)
   (try subst u1)
   (try subst u2)
   (try subst u3)
   (try subst u4)
   (try subst u5)
   (try subst u6)
   (try subst u7)
   (try subst u8)
   (try subst u9)
   clear u
   go_wp2_with (first | (go_at_call 68; (with_reducible refine (Hs1 _ (by exact below_auto)).mono ?_); rintro e wy ⟨vy, rfl, hpy, hby⟩) | (go_at_call 68; (with_reducible refine (Hs3 _ (by exact below_auto)).mono ?_); rintro e wy ⟨vy, rfl, hpy, hby⟩) | (go_at_call 69; (with_reducible refine (HNm _ (by exact below_auto)).mono ?_); rintro e wy ⟨vy, rfl, hpy, hby⟩))
   exact ⟨rfl, by exact below_auto, rfl⟩
  ·intro u w5 hb5 hd
   obtain ⟨hc5, hf5⟩ := bcell hb5
   (try simp only [qD, qE, qF] at hc5 hf5)
   have hz5 := hb5.size
   (try simp at hz5)
   (try have hy5_0 : w.heap.size < w5.heap.size := by omega)
   (try have hy5_1 : w.heap.size + 1 < w5.heap.size := by omega)
   (try have hy5_2 : w.heap.size + 2 < w5.heap.size := by omega)
   (try have hy5_3 : w.heap.size + 3 < w5.heap.size := by omega)
   (try have hx5_0 : w.heap.size ≤ w5.heap.size := by omega)
   (try have hx5_1 : w.heap.size + 1 ≤ w5.heap.size := by omega)
   (try have hx5_2 : w.heap.size + 2 ≤ w5.heap.size := by omega)
   (try (simp [Region.binds, Note.phi, cellsAre] at hd))
   revert hd
   (try simp only [putsFrom, Act.put, qA, qB, qC, Nat.zero_add, Nat.reduceAdd])
   generalize u 0 = u0
   generalize u 1 = u1
   generalize u 2 = u2
   generalize u 3 = u3
   generalize u 4 = u4
   generalize u 5 = u5
   generalize u 6 = u6
   generalize u 7 = u7
   generalize u 8 = u8
   generalize u 9 = u9
   generalize u 10 = u10
   ((try simp only [forall_exists_index, and_imp]); intros)
   (try subst u0)
   (try subst u1)
   (try subst u2)
   (try subst u3)
   (try subst u4)
   (try subst u5)
   (try subst u6)
   (try subst u7)
   (try subst u8)
   (try subst u9)
   (try subst u10)
   clear u
   go_wp2_with (first | (go_at_call 68; (with_reducible refine (Hs1 _ (by exact below_auto)).mono ?_); rintro e wy ⟨vy, rfl, hpy, hby⟩) | (go_at_call 68; (with_reducible refine (Hs3 _ (by exact below_auto)).mono ?_); rintro e wy ⟨vy, rfl, hpy, hby⟩) | (go_at_call 69; (with_reducible refine (HNm _ (by exact below_auto)).mono ?_); rintro e wy ⟨vy, rfl, hpy, hby⟩))
   exact ⟨rfl, by exact below_auto, by assumption⟩
  ·intro u w5 hb5 hd
   obtain ⟨hc5, hf5⟩ := bcell hb5
   (try simp only [qD, qE, qF] at hc5 hf5)
   have hz5 := hb5.size
   (try simp at hz5)
   (try have hy5_0 : w.heap.size < w5.heap.size := by omega)
   (try have hy5_1 : w.heap.size + 1 < w5.heap.size := by omega)
   (try have hy5_2 : w.heap.size + 2 < w5.heap.size := by omega)
   (try have hy5_3 : w.heap.size + 3 < w5.heap.size := by omega)
   (try have hx5_0 : w.heap.size ≤ w5.heap.size := by omega)
   (try have hx5_1 : w.heap.size + 1 ≤ w5.heap.size := by omega)
   (try have hx5_2 : w.heap.size + 2 ≤ w5.heap.size := by omega)
   (try (simp [Region.binds, Note.phi, cellsAre] at hd))
   revert hd
   (try simp only [putsFrom, Act.put, qA, qB, qC, Nat.zero_add, Nat.reduceAdd])
   generalize u 0 = u0
   generalize u 1 = u1
   generalize u 2 = u2
   generalize u 3 = u3
   generalize u 4 = u4
   generalize u 5 = u5
   generalize u 6 = u6
   generalize u 7 = u7
   generalize u 8 = u8
   generalize u 9 = u9
   generalize u 10 = u10
   generalize u 11 = u11
   ((try simp only [forall_exists_index, and_imp]); intros)
   (try subst u0)
   (try subst u1)
   (try subst u2)
   (try subst u3)
   (try subst u4)
   (try subst u5)
   (try subst u6)
   (try subst u7)
   (try subst u8)
   (try subst u9)
   (try subst u10)
   (try subst u11)
   clear u
   go_wp2_with (first | (go_at_call 68; (with_reducible refine (Hs1 _ (by exact below_auto)).mono ?_); rintro e wy ⟨vy, rfl, hpy, hby⟩) | (go_at_call 68; (with_reducible refine (Hs3 _ (by exact below_auto)).mono ?_); rintro e wy ⟨vy, rfl, hpy, hby⟩) | (go_at_call 69; (with_reducible refine (HNm _ (by exact below_auto)).mono ?_); rintro e wy ⟨vy, rfl, hpy, hby⟩))
   exact ⟨rfl, by exact below_auto, rfl⟩
  ·intro u w5 hb5 hd
   obtain ⟨hc5, hf5⟩ := bcell hb5
   (try simp only [qD, qE, qF] at hc5 hf5)
   have hz5 := hb5.size
   (try simp at hz5)
   (try have hy5_0 : w.heap.size < w5.heap.size := by omega)
   (try have hy5_1 : w.heap.size + 1 < w5.heap.size := by omega)
   (try have hy5_2 : w.heap.size + 2 < w5.heap.size := by omega)
   (try have hy5_3 : w.heap.size + 3 < w5.heap.size := by omega)
   (try have hx5_0 : w.heap.size ≤ w5.heap.size := by omega)
   (try have hx5_1 : w.heap.size + 1 ≤ w5.heap.size := by omega)
   (try have hx5_2 : w.heap.size + 2 ≤ w5.heap.size := by omega)
   (try (simp [Region.binds, Note.phi, cellsAre] at hd))
   revert hd
   (try simp only [putsFrom, Act.put, qA, qB, qC, Nat.zero_add, Nat.reduceAdd])
   generalize u 0 = u0
   generalize u 1 = u1
   generalize u 2 = u2
   generalize u 3 = u3
   generalize u 4 = u4
   generalize u 5 = u5
   generalize u 6 = u6
   generalize u 7 = u7
   generalize u 8 = u8
   generalize u 9 = u9
   generalize u 10 = u10
   generalize u 11 = u11
   generalize u 12 = u12
   ((try simp only [forall_exists_index, and_imp]); intros)
   (try subst u0)
   (try subst u1)
   (try subst u2)
   (try subst u3)
   (try subst u4)
   (try subst u5)
   (try subst u6)
   (try subst u7)
   (try subst u8)
   (try subst u9)
   (try subst u10)
   (try subst u11)
   (try subst u12)
   clear u
   go_wp2_with (first | (go_at_call 68; (with_reducible refine (Hs1 _ (by exact below_auto)).mono ?_); rintro e wy ⟨vy, rfl, hpy, hby⟩) | (go_at_call 68; (with_reducible refine (Hs3 _ (by exact below_auto)).mono ?_); rintro e wy ⟨vy, rfl, hpy, hby⟩) | (go_at_call 69; (with_reducible refine (HNm _ (by exact below_auto)).mono ?_); rintro e wy ⟨vy, rfl, hpy, hby⟩))
   exact ⟨rfl, by exact below_auto, rfl⟩
  ·intro u w5 hb5 hd
   obtain ⟨hc5, hf5⟩ := bcell hb5
   (try simp only [qD, qE, qF] at hc5 hf5)
   have hz5 := hb5.size
   (try simp at hz5)
   (try have hy5_0 : w.heap.size < w5.heap.size := by omega)
   (try have hy5_1 : w.heap.size + 1 < w5.heap.size := by omega)
   (try have hy5_2 : w.heap.size + 2 < w5.heap.size := by omega)
   (try have hy5_3 : w.heap.size + 3 < w5.heap.size := by omega)
   (try have hx5_0 : w.heap.size ≤ w5.heap.size := by omega)
   (try have hx5_1 : w.heap.size + 1 ≤ w5.heap.size := by omega)
   (try have hx5_2 : w.heap.size + 2 ≤ w5.heap.size := by omega)
   (try (simp [Region.binds, Note.phi, cellsAre] at hd))
   revert hd
   (try simp only [putsFrom, Act.put, qA, qB, qC, Nat.zero_add, Nat.reduceAdd])
   generalize u 0 = u0
   generalize u 1 = u1
   generalize u 2 = u2
   generalize u 3 = u3
   generalize u 4 = u4
   generalize u 5 = u5
   generalize u 6 = u6
   generalize u 7 = u7
   generalize u 8 = u8
   generalize u 9 = u9
   generalize u 10 = u10
   generalize u 11 = u11
   generalize u 12 = u12
   generalize u 13 = u13
   ((try simp only [forall_exists_index, and_imp]); intros)
   (try subst u0)
   (try subst u1)
   (try subst u2)
   (try subst u3)
   (try subst u4)
   (try subst u5)
   (try subst u6)
   (try subst u7)
   (try subst u8)
   (try subst u9)
   (try subst u10)
   (try subst u11)
   (try subst u12)
   (try subst u13)
   clear u
   go_wp2_with (first | (go_at_call 68; (with_reducible refine (Hs1 _ (by exact below_auto)).mono ?_); rintro e wy ⟨vy, rfl, hpy, hby⟩) | (go_at_call 68; (with_reducible refine (Hs3 _ (by exact below_auto)).mono ?_); rintro e wy ⟨vy, rfl, hpy, hby⟩) | (go_at_call 69; (with_reducible refine (HNm _ (by exact below_auto)).mono ?_); rintro e wy ⟨vy, rfl, hpy, hby⟩))
   exact ⟨rfl, by exact below_auto, by assumption⟩
  ·intro u w5 hb5 hd
   obtain ⟨hc5, hf5⟩ := bcell hb5
   (try simp only [qD, qE, qF] at hc5 hf5)
   have hz5 := hb5.size
   (try simp at hz5)
   (try have hy5_0 : w.heap.size < w5.heap.size := by omega)
   (try have hy5_1 : w.heap.size + 1 < w5.heap.size := by omega)
   (try have hy5_2 : w.heap.size + 2 < w5.heap.size := by omega)
   (try have hy5_3 : w.heap.size + 3 < w5.heap.size := by omega)
   (try have hx5_0 : w.heap.size ≤ w5.heap.size := by omega)
   (try have hx5_1 : w.heap.size + 1 ≤ w5.heap.size := by omega)
   (try have hx5_2 : w.heap.size + 2 ≤ w5.heap.size := by omega)
   (try (simp [Region.binds, Note.phi, cellsAre] at hd))
   revert hd
   (try simp only [putsFrom, Act.put, qA, qB, qC, Nat.zero_add, Nat.reduceAdd])
   generalize u 0 = u0
   generalize u 1 = u1
   generalize u 2 = u2
   generalize u 3 = u3
   generalize u 4 = u4
   generalize u 5 = u5
   generalize u 6 = u6
   generalize u 7 = u7
   generalize u 8 = u8
   generalize u 9 = u9
   generalize u 10 = u10
   generalize u 11 = u11
   generalize u 12 = u12
   generalize u 13 = u13
   generalize u 14 = u14
   ((try simp only [forall_exists_index, and_imp]); intros)
   (try subst u0)
   (try subst u1)
   (try subst u2)
   (try subst u3)
   (try subst u4)
   (try subst u5)
   (try subst u6)
   (try subst u7)
   (try subst u8)
   (try subst u9)
   (try subst u10)
   (try subst u11)
   (try subst u12)
   (try subst u13)
   (try subst u14)
   clear u
   (obtain ⟨a1, d1, e1⟩ := (show OwnF w.heap.size L1 u8 w5 from by assumption).1; obtain ⟨a2, d2, e2⟩ := (show OwnS w.heap.size G u11 w5 from by assumption).1; obtain ⟨a3, d3, e3⟩ := (show OwnF w.heap.size L3 u14 w5 from by assumption).1; subst e1 e2 e3)
   go_wp2_with (first | (go_at_call 68; (with_reducible refine (Hs1 _ (by exact below_auto)).mono ?_); rintro e wy ⟨vy, rfl, hpy, hby⟩) | (go_at_call 68; (with_reducible refine (Hs3 _ (by exact below_auto)).mono ?_); rintro e wy ⟨vy, rfl, hpy, hby⟩) | (go_at_call 69; (with_reducible refine (HNm _ (by exact below_auto)).mono ?_); rintro e wy ⟨vy, rfl, hpy, hby⟩))
   exact ⟨rfl, by exact below_auto, by exact OutAgg.mk (by assumption) (by assumption) (by assumption)⟩
  ·intro u w5 hb5 hd
   obtain ⟨hc5, hf5⟩ := bcell hb5
   (try simp only [qD, qE, qF] at hc5 hf5)
   have hz5 := hb5.size
   (try simp at hz5)
   (try have hy5_0 : w.heap.size < w5.heap.size := by omega)
   (try have hy5_1 : w.heap.size + 1 < w5.heap.size := by omega)
   (try have hy5_2 : w.heap.size + 2 < w5.heap.size := by omega)
   (try have hy5_3 : w.heap.size + 3 < w5.heap.size := by omega)
   (try have hx5_0 : w.heap.size ≤ w5.heap.size := by omega)
   (try have hx5_1 : w.heap.size + 1 ≤ w5.heap.size := by omega)
   (try have hx5_2 : w.heap.size + 2 ≤ w5.heap.size := by omega)
   (try (simp [Region.binds, Note.phi, cellsAre] at hd))
   revert hd
   (try simp only [putsFrom, Act.put, qA, qB, qC, Nat.zero_add, Nat.reduceAdd])
   generalize u 0 = u0
   generalize u 1 = u1
   generalize u 2 = u2
   generalize u 3 = u3
   generalize u 4 = u4
   generalize u 5 = u5
   generalize u 6 = u6
   generalize u 7 = u7
   generalize u 8 = u8
   generalize u 9 = u9
   generalize u 10 = u10
   generalize u 11 = u11
   generalize u 12 = u12
   generalize u 13 = u13
   generalize u 14 = u14
   generalize u 15 = u15
   ((try simp only [forall_exists_index, and_imp]); intros)
   (try subst u0)
   (try subst u1)
   (try subst u2)
   (try subst u3)
   (try subst u4)
   (try subst u5)
   (try subst u6)
   (try subst u7)
   (try subst u8)
   (try subst u9)
   (try subst u10)
   (try subst u11)
   (try subst u12)
   (try subst u13)
   (try subst u14)
   (try subst u15)
   clear u
   go_wp2_with (first | (go_at_call 68; (with_reducible refine (Hs1 _ (by exact below_auto)).mono ?_); rintro e wy ⟨vy, rfl, hpy, hby⟩) | (go_at_call 68; (with_reducible refine (Hs3 _ (by exact below_auto)).mono ?_); rintro e wy ⟨vy, rfl, hpy, hby⟩) | (go_at_call 69; (with_reducible refine (HNm _ (by exact below_auto)).mono ?_); rintro e wy ⟨vy, rfl, hpy, hby⟩))
   exact ⟨rfl, by exact below_auto, by exact PtrBox.mk (by omega) (by simp) (heap_alloc_new _ _)⟩
 ·intro u w5 hb5 hph hap
  obtain ⟨hc5, hf5⟩ := bcell hb5
  (try simp only [qD, qE, qF] at hc5 hf5)
  have hz5 := hb5.size
  (try simp at hz5)
  (try have hy5_0 : w.heap.size < w5.heap.size := by omega)
  (try have hy5_1 : w.heap.size + 1 < w5.heap.size := by omega)
  (try have hy5_2 : w.heap.size + 2 < w5.heap.size := by omega)
  (try have hy5_3 : w.heap.size + 3 < w5.heap.size := by omega)
  (try have hx5_0 : w.heap.size ≤ w5.heap.size := by omega)
  (try have hx5_1 : w.heap.size + 1 ≤ w5.heap.size := by omega)
  (try have hx5_2 : w.heap.size + 2 ≤ w5.heap.size := by omega)
  have hp0 := hph 0 (by simp)
  have hp1 := hph 1 (by simp)
  have hp2 := hph 2 (by simp)
  have hp3 := hph 3 (by simp)
  have hp4 := hph 4 (by simp)
  have hp5 := hph 5 (by simp)
  have hp6 := hph 6 (by simp)
  have hp7 := hph 7 (by simp)
  have hp8 := hph 8 (by simp)
  have hp9 := hph 9 (by simp)
  have hp10 := hph 10 (by simp)
  have hp11 := hph 11 (by simp)
  have hp12 := hph 12 (by simp)
  have hp13 := hph 13 (by simp)
  have hp14 := hph 14 (by simp)
  have hp15 := hph 15 (by simp)
  have hp16 := hph 16 (by simp)
  clear hph hap
  simp only [List.length_cons, List.length_nil, List.take_succ_cons, List.take_zero, List.drop_succ_cons, List.drop_zero, putsFrom, Act.put, qA, qB, qC, Nat.zero_add, Nat.reduceAdd]
  generalize u 0 = u0 at *
  generalize u 1 = u1 at *
  generalize u 2 = u2 at *
  generalize u 3 = u3 at *
  generalize u 4 = u4 at *
  generalize u 5 = u5 at *
  generalize u 6 = u6 at *
  generalize u 7 = u7 at *
  generalize u 8 = u8 at *
  generalize u 9 = u9 at *
  generalize u 10 = u10 at *
  generalize u 11 = u11 at *
  generalize u 12 = u12 at *
  generalize u 13 = u13 at *
  generalize u 14 = u14 at *
  generalize u 15 = u15 at *
  generalize u 16 = u16 at *
  clear u
  cases hp0
  cases hp1
  cases hp2
  cases hp3
  cases hp4
  cases hp5
  cases hp6
  cases hp7
  have hp8 : (OwnF w.heap.size L1) u8 w5 := hp8
  cases hp9
  cases hp10
  have hp11 : (OwnS w.heap.size G) u11 w5 := hp11
  cases hp12
  cases hp13
  have hp14 : (OwnF w.heap.size L3) u14 w5 := hp14
  have hp15 : (OutAgg w.heap.size s0 s1 s2 L1 L3 G) u15 w5 := hp15
  have hp16 : (PtrBox w0.heap.size [.int .i64 0, .int .i64 0, .int .i64 0, .slice none 0 0, .slice none 0 0, .slice none 0 0]) u16 w5 := hp16
  obtain ⟨v1, v2, v3, rfl, o1, o2, o3⟩ := hp15
  have O1 := o1; have O2 := o2; have O3 := o3
  obtain ⟨B16, rfl, hlB, hgB, hhB⟩ := hp16
  obtain ⟨⟨a1, d1, rfl⟩, _⟩ := o1
  obtain ⟨⟨a2, d2, rfl⟩, _⟩ := o2
  obtain ⟨⟨a3, d3, rfl⟩, _⟩ := o3
  have hC5 : Below w0.heap.size w0 w5 := by exact below_auto
  have kc : ∀ (j : Nat) (u : Value), [Value.int .i64 0, .int .i64 0, .int .i64 0, .slice none 0 0, .slice none 0 0, .slice none 0 0][j]? = some u → w5.cell? ⟨B16, j, none⟩ = some u := fun j u hu => by rw [cell_of_row w5 B16 j _ _ (0, 0) hhB]; simpa using hu
  have q0 := kc 0 _ rfl; have q1 := kc 1 _ rfl; have q2 := kc 2 _ rfl; have q3 := kc 3 _ rfl; have q4 := kc 4 _ rfl; have q5 := kc 5 _ rfl
  have qf : ∀ o, w5.frozen? ⟨B16, o, none⟩ = false := fun o => by simp [World.frozen?, hhB]
  have h6 := set6 hhB (.int .i64 s0) (.int .i64 s1) (.int .i64 s2) (.slice a1 L1.length d1) (.slice a2 G.length d2) (.slice a3 L3.length d3)
  have p1 := O1.set h6.2 hhB
  have p2 := O2.set h6.2 hhB
  have p3 := O3.set h6.2 hhB
  have H6 := hid h6
  have P1 := hid p1; have P2 := hid p2; have P3 := hid p3
  clear kc h6 p1 p2 p3 O1 O2 O3
  go_upto_region 2 with fail
  generalize ((((((w5.setCell ⟨B16, 0, none⟩ (.int .i64 s0)).setCell ⟨B16, 1, none⟩ (.int .i64 s1)).setCell ⟨B16, 2, none⟩ (.int .i64 s2)).setCell ⟨B16, 3, none⟩ (.slice a1 L1.length d1)).setCell ⟨B16, 4, none⟩ (.slice a2 G.length d2)).setCell ⟨B16, 5, none⟩ (.slice a3 L3.length d3)) = w6 at *
  obtain ⟨hh6, hg6⟩ := H6.out
  have hC6 : Below w0.heap.size w0 w6 := hC5.grown hg6 hC5.size (fun k hk => by cases hk; exact hlB)
  have hz6 := hC6.size
  have hw6 : Below w.heap.size w w6 := hA.trans (hC6.mono (by omega))
  have b4' := (hC6.cell (p := ⟨w.heap.size, 4, none⟩) hz00).trans b4
  have hgB6 : B16 < w6.heap.size := Nat.lt_of_lt_of_le hgB hg6.size
  have xc : ∀ (W : World), Below w6.heap.size w6 W → ∀ (j : Nat) (u : Value), [Value.int .i64 s0, .int .i64 s1, .int .i64 s2, .slice a1 L1.length d1, .slice a2 G.length d2, .slice a3 L3.length d3][j]? = some u → W.cell? ⟨B16, j, none⟩ = some u := fun W hW j u hu => (hW.cell (p := ⟨B16, j, none⟩) hgB6).trans (by rw [cell_of_row w6 B16 j _ _ (0, 0) hh6]; simpa using hu)
  have XC := hid xc
  clear xc hh6 hg6 q0 q1 q2 q3 q4 q5 qf hc5 hf5 b0 b1 b2 b3 b5 H6
  go_wp2_with fail
  refine (Hw w6 hw6).mono ?_
  rintro e w7 ⟨rfl, hb7⟩
  have x0 := XC.out w7 hb7 0 _ rfl; have x1 := XC.out w7 hb7 1 _ rfl; have x2 := XC.out w7 hb7 2 _ rfl; have x3 := XC.out w7 hb7 3 _ rfl; have x4 := XC.out w7 hb7 4 _ rfl; have x5 := XC.out w7 hb7 5 _ rfl
  go_wp2_with fail
  refine (Hc (.slice a1 L1.length d1) (.slice a2 G.length d2) (.slice a3 L3.length d3) w7 (P1.out.below hb7) (P2.out.below hb7) (P3.out.below hb7)).mono ?_
  rintro e w8 ⟨rfl, hb8⟩
  have hb68 : Below w6.heap.size w6 w8 := hb7.trans (hb8.mono hb7.size)
  have hC8 : Below w0.heap.size w0 w8 := hC6.trans (hb68.mono hz6)
  have hw8 : Below w.heap.size w w8 := hA.trans (hC8.mono (by omega))
  have hr8 := (hC8.block _ hz0).trans hr0
  clear x0 x1 x2 x3 x4 x5
  have x0 := XC.out w8 hb68 0 _ rfl; have x1 := XC.out w8 hb68 1 _ rfl; have x2 := XC.out w8 hb68 2 _ rfl; have x3 := XC.out w8 hb68 3 _ rfl; have x4 := XC.out w8 hb68 4 _ rfl; have x5 := XC.out w8 hb68 5 _ rfl
  have yc : ∀ (j : Nat) (u : Value), [Value.int .i64 0, .int .i64 0, .int .i64 0, .slice none 0 0, .slice none 0 0, .slice none 0 0][j]? = some u → w8.cell? ⟨w.heap.size + 1, j, none⟩ = some u := fun j u hu => by rw [cell_of_row w8 _ j _ _ (0, 0) hr8]; simpa using hu
  have y0 := yc 0 _ rfl; have y1 := yc 1 _ rfl; have y2 := yc 2 _ rfl; have y3 := yc 3 _ rfl; have y4 := yc 4 _ rfl; have y5 := yc 5 _ rfl
  have yf : ∀ o, w8.frozen? ⟨w.heap.size + 1, o, none⟩ = false := fun o => by simp [World.frozen?, hr8]
  have hs9 := set6 hr8 (.int .i64 s0) (.int .i64 s1) (.int .i64 s2) (.slice a1 L1.length d1) (.slice a2 G.length d2) (.slice a3 L3.length d3)
  have hsz := set6 hr8 (.int .i64 0) (.int .i64 0) (.int .i64 0) (.slice none 0 0) (.slice none 0 0) (.slice none 0 0)
  have HZ := hid (hw8.grown hsz.2 hw8.size (fun k hk => by cases hk; omega))
  have HW9 := hid (hw8.grown hs9.2 hw8.size (fun k hk => by cases hk; omega))
  have HP1 := hid ((P1.out.below hb68).set hs9.2 hr8)
  have HP2 := hid ((P2.out.below hb68).set hs9.2 hr8)
  have HP3 := hid ((P3.out.below hb68).set hs9.2 hr8)
  clear yc hs9 hsz hr8 XC P1 P2 P3 hr0 b4 b4'
  rcases hV with rfl | rfl | rfl | rfl
  ·cases wr
   all_goals
    go_wp2_with fail
    refine bodyPost_ret (v := .tuple #[.agg #[.int .i64 0, .int .i64 0, .int .i64 0, .slice none 0 0, .slice none 0 0, .slice none 0 0], .int .i64 43]) (by simp [results, Tryz.results42, go_sem, *]) rfl ⟨HZ.out, .inr ⟨by decide, rfl⟩⟩
  ·cases wr
   all_goals
    go_wp2_with fail
    refine bodyPost_ret (v := .tuple #[.agg #[.int .i64 0, .int .i64 0, .int .i64 0, .slice none 0 0, .slice none 0 0, .slice none 0 0], .int .i64 3]) (by simp [results, Tryz.results42, go_sem, *]) rfl ⟨HZ.out, .inr ⟨by decide, rfl⟩⟩
  ·cases wr
   all_goals
    go_wp2_with fail
    refine bodyPost_ret (v := .tuple #[.agg #[.int .i64 0, .int .i64 0, .int .i64 0, .slice none 0 0, .slice none 0 0, .slice none 0 0], .int .i64 40]) (by simp [results, Tryz.results42, go_sem, *]) rfl ⟨HZ.out, .inr ⟨by decide, rfl⟩⟩
  ·cases wr
   ·go_wp2_with fail
    refine bodyPost_ret (v := .tuple #[.agg #[.int .i64 s0, .int .i64 s1, .int .i64 s2, (.slice a1 L1.length d1), (.slice a2 G.length d2), (.slice a3 L3.length d3)], .int .i64 0]) (by simp [results, Tryz.results42, go_sem, *]) rfl ⟨HW9.out, .inl ⟨rfl, (.slice a1 L1.length d1), (.slice a2 G.length d2), (.slice a3 L3.length d3), rfl, HP1.out, HP2.out, HP3.out⟩⟩
   ·go_wp2_with fail
    refine bodyPost_ret (v := .tuple #[.agg #[.int .i64 0, .int .i64 0, .int .i64 0, .slice none 0 0, .slice none 0 0, .slice none 0 0], .int .i64 41]) (by simp [results, Tryz.results42, go_sem, *]) rfl ⟨HZ.out, .inr ⟨by decide, rfl⟩⟩
end Go.Proofs.YtekmadgacepdfaaGreat.K
namespace Go.Proofs.YtekmadgacepdfaaGreat.K
set_option linter.unusedVariables false
open Go.RowKit Fl

theorem OwnF.ge {B g : Nat} {L : List Nat} {v : Value} {w w' : World} (h : OwnF B L v w) (hg : w.grownBy w' (some g)) (hgB : g < B) : OwnF B L v w' :=
 ⟨h.1, h.2.kept hg (.inr fun e => by have := (h.2.lt g e).1; omega)⟩
theorem OwnS.ge {B g : Nat} {G : List RK} {v : Value} {w w' : World} (h : OwnS B G v w) (hg : w.grownBy w' (some g)) (hgB : g < B) : OwnS B G v w' :=
 ⟨h.1, h.2.kept hg (.inr fun e => by have := (h.2.lt g e).1; omega)⟩
theorem OwnF.le {B B' : Nat} {L : List Nat} {v : Value} {w : World} (h : OwnF B L v w) (hB : B' ≤ B) : OwnF B' L v w := ⟨h.1, own_le h.2 hB⟩
theorem OwnS.le {B B' : Nat} {G : List RK} {v : Value} {w : World} (h : OwnS B G v w) (hB : B' ≤ B) : OwnS B' G v w := ⟨h.1, own_le h.2 hB⟩

structure CSt (w W : World) (inp res out : Array Value) : Prop where
 b : Below w.heap.size w W
 lt : w.heap.size + 1 + 1 < W.heap.size
 i : W.heap[w.heap.size]? = some (.cells inp 35 (0, 0))
 r : W.heap[w.heap.size + 1]? = some (.cells res 35 (0, 0))
 o : W.heap[w.heap.size + 1 + 1]? = some (.cells out 35 (0, 0))
theorem CSt.below {w W W' : World} {inp res out : Array Value} (h : CSt w W inp res out) (hb : Below W.heap.size W W') : CSt w W' inp res out := by
 have := h.lt
 have hz := hb.size
 have hz2 := h.b.size
 exact ⟨h.b.trans (hb.mono hz2), by omega, (hb.block _ (by omega)).trans h.i, (hb.block _ (by omega)).trans h.r, (hb.block _ h.lt).trans h.o⟩
theorem CSt.set {w W : World} {inp res out : Array Value} (h : CSt w W inp res out) (j : Nat) (v : Value) : CSt w (W.setCell ⟨w.heap.size + 1 + 1, j, none⟩ v) inp res (out.setIfInBounds j v) ∧ W.grownBy (W.setCell ⟨w.heap.size + 1 + 1, j, none⟩ v) (some (w.heap.size + 1 + 1)) := by
 obtain ⟨h1, h2⟩ := set1 (i := j) h.o v
 have := h.lt
 exact ⟨⟨h.b.grown h2 h.b.size (fun k hk => by cases hk; omega), Nat.lt_of_lt_of_le h.lt h2.size, (h2.block _ (by omega) (fun e => by have := Option.some.inj e; omega)).trans h.i, (h2.block _ (by omega) (fun e => by have := Option.some.inj e; omega)).trans h.r, h1⟩, h2⟩
theorem CSt.ci {w W : World} {inp res out : Array Value} (h : CSt w W inp res out) (j : Nat) : W.cell? ⟨w.heap.size, j, none⟩ = inp[j]? := cell_of_row W _ j inp _ (0, 0) h.i
theorem CSt.cr {w W : World} {inp res out : Array Value} (h : CSt w W inp res out) (j : Nat) : W.cell? ⟨w.heap.size + 1, j, none⟩ = res[j]? := cell_of_row W _ j res _ (0, 0) h.r
theorem CSt.co {w W : World} {inp res out : Array Value} (h : CSt w W inp res out) (j : Nat) : W.cell? ⟨w.heap.size + 1 + 1, j, none⟩ = out[j]? := cell_of_row W _ j out _ (0, 0) h.o
theorem CSt.fo {w W : World} {inp res out : Array Value} (h : CSt w W inp res out) (j : Nat) : W.frozen? ⟨w.heap.size + 1 + 1, j, none⟩ = false := by simp [World.frozen?, h.o]
theorem CSt.fr {w W : World} {inp res out : Array Value} (h : CSt w W inp res out) (j : Nat) : W.frozen? ⟨w.heap.size + 1, j, none⟩ = false := by simp [World.frozen?, h.r]
theorem heap3 (w : World) (A Z C : Obj) : (((w.alloc A).alloc Z).alloc C).heap[w.heap.size]? = some A ∧ (((w.alloc A).alloc Z).alloc C).heap[w.heap.size + 1]? = some Z ∧ (((w.alloc A).alloc Z).alloc C).heap[w.heap.size + 1 + 1]? = some C := by
 have s1 : (w.alloc A).heap.size = w.heap.size + 1 := by simp
 have s2 : ((w.alloc A).alloc Z).heap.size = w.heap.size + 1 + 1 := by simp
 have e1 := heap_alloc_new w A
 have e2 := heap_alloc_new (w.alloc A) Z
 have e3 := heap_alloc_new ((w.alloc A).alloc Z) C
 rw [s1] at e2
 rw [s2] at e3
 have b1 : Below (w.heap.size + 1) (w.alloc A) ((w.alloc A).alloc Z) := (Below.refl _ _).alloc (by omega) Z
 have b2 : Below (w.heap.size + 1 + 1) ((w.alloc A).alloc Z) (((w.alloc A).alloc Z).alloc C) := (Below.refl _ _).alloc (by omega) C
 exact ⟨(b2.block _ (by omega)).trans ((b1.block _ (by omega)).trans e1), (b2.block _ (by omega)).trans e2, e3⟩
def anyW (ss : List SpanV) (k : Nat) : Bool := (ss.take k).any wrongS
theorem any_take {ss : List SpanV} {k : Nat} {s : SpanV} (h : ss[k]? = some s) : anyW ss (k + 1) = (anyW ss k || wrongS s) := by
 unfold anyW
 rw [List.take_add_one, h, List.any_append]; simp

set_option maxHeartbeats 4000000 in
set_option maxRecDepth 100000 in
theorem refCanon_w (s0 s1 s2 : Int) (ra sa wa : Option Addr) (n1 n2 n3 rc sc wc : Nat) (ss : List SpanV) (L1 L3 : List Nat) (G : List RK) (wr : Bool) (V : Int) (w : World) (hV : V = 43 ∨ V = 3 ∨ V = 40 ∨ V = 0)
  (HN : Hid (ss.length = n2)) (HS : Hid (SAt w sa ss)) (HM : Hid (ss.any wrongS = wr))
  (Hs1 : ∀ W, Below w.heap.size w W → Calls Tryz.prog 76 #[.slice ra n1 rc] W fun e W' => ∃ v, e = .returned v ∧ OwnF W.heap.size L1 v W' ∧ Below W.heap.size W W')
  (Hs3 : ∀ W, Below w.heap.size w W → Calls Tryz.prog 76 #[.slice wa n3 wc] W fun e W' => ∃ v, e = .returned v ∧ OwnF W.heap.size L3 v W' ∧ Below W.heap.size W W')
  (HNm : ∀ W, Below w.heap.size w W → Calls Tryz.prog 78 #[.slice sa n2 sc] W fun e W' => ∃ v, e = .returned v ∧ RangesRow G v W' ∧ Below W.heap.size W W')
  (HSp : ∀ (v : Value) (W : World), RangesRow G v W → Calls Tryz.prog 77 #[v] W fun e W' => ∃ v, e = .returned v ∧ OwnS W.heap.size G v W' ∧ Below W.heap.size W W')
  (Hc : ∀ (v1 v2 v3 : Value) (W : World), OwnF w.heap.size L1 v1 W → OwnS w.heap.size G v2 W → OwnF w.heap.size L3 v3 W → Calls Tryz.prog 51 #[.agg #[.int .i64 s0, .int .i64 s1, .int .i64 s2, v1, v2, v3]] W (Ret (.int .i64 V) W)) :
  Calls Tryz.prog 44 #[.agg #[.int .i64 s0, .int .i64 s1, .int .i64 s2, .slice ra n1 rc, .slice sa n2 sc, .slice wa n3 wc]] w (CanRet w s0 s1 s2 L1 L3 G (canI wr V)) := by
 go_enter Tryz.func44, Tryz.ntmps44
 go_upto_region 2 with fail
 generalize hW0 : World.alloc _ _ = w0 at *
 have hA : Below w.heap.size w w0 := by rw [← hW0]; exact below_auto
 have hz0 : w.heap.size + 1 + 1 < w0.heap.size := by rw [← hW0]; simp
 have hz01 : w.heap.size + 1 < w0.heap.size := by omega
 have hz00 : w.heap.size < w0.heap.size := by omega
 have b3 : w0.cell? ⟨w.heap.size, 3, none⟩ = some (.slice ra n1 rc) := by rw [← hW0]; simp [go_sem]
 have b4 : w0.cell? ⟨w.heap.size, 4, none⟩ = some (.slice sa n2 sc) := by rw [← hW0]; simp [go_sem]
 have b5 : w0.cell? ⟨w.heap.size, 5, none⟩ = some (.slice wa n3 wc) := by rw [← hW0]; simp [go_sem]
 have h3 := heap3 w (.cells #[.int .i64 s0, .int .i64 s1, .int .i64 s2, .slice ra n1 rc, .slice sa n2 sc, .slice wa n3 wc] 35) (.cells #[.int .i64 0, .int .i64 0, .int .i64 0, .slice none 0 0, .slice none 0 0, .slice none 0 0] 35) (.cells #[.int .i64 s0, .int .i64 s1, .int .i64 s2, .slice ra n1 rc, .slice sa n2 sc, .slice wa n3 wc] 35)
 rw [hW0] at h3
 obtain ⟨hi0, hr0, hb0⟩ := h3
 clear hW0
 have S0 : CSt w w0 #[.int .i64 s0, .int .i64 s1, .int .i64 s2, .slice ra n1 rc, .slice sa n2 sc, .slice wa n3 wc] #[.int .i64 0, .int .i64 0, .int .i64 0, .slice none 0 0, .slice none 0 0, .slice none 0 0] #[.int .i64 s0, .int .i64 s1, .int .i64 s2, .slice ra n1 rc, .slice sa n2 sc, .slice wa n3 wc] := ⟨hA, hz0, hi0, hr0, hb0⟩
 have hlt0 := S0.lt
 have HS0 := hid S0
 clear S0 hr0 hb0 hi0 b4 b5
 go_wp2_with fail
 refine (Hs1 w0 HS0.out.b).mono ?_
 rintro e w1 ⟨v1, rfl, o1, hb1⟩
 have O1 := o1
 obtain ⟨⟨a1, d1, rfl⟩, _⟩ := o1
 have S1 := HS0.out.below hb1
 have c1 : w1.cell? ⟨w.heap.size + 1 + 1, 3, none⟩ = some (.slice ra n1 rc) := S1.co 3
 have f1 := S1.fo 3
 obtain ⟨S2, g2⟩ := S1.set 3 (.slice a1 L1.length d1)
 have HO1 := hid (O1.ge g2 hlt0)
 have HS2 := hid S2
 clear S1 S2 g2 O1 HS0 b3
 go_upto_region 3 with fail
 generalize w1.setCell ⟨w.heap.size + 1 + 1, 3, none⟩ (.slice a1 L1.length d1) = w2 at *
 have hlt2 := HS2.out.lt
 have p5 : w2.cell? ⟨w.heap.size, 5, none⟩ = some (.slice wa n3 wc) := HS2.out.ci 5
 have hzi2 : w.heap.size < w2.heap.size := by omega
 clear c1 f1 hb1
 go_wp2_with fail
 refine (Hs3 w2 HS2.out.b).mono ?_
 rintro e w3 ⟨v3, rfl, o3, hb3⟩
 have O3 := o3
 obtain ⟨⟨a3, d3, rfl⟩, _⟩ := o3
 have S3 := HS2.out.below hb3
 have c3 : w3.cell? ⟨w.heap.size + 1 + 1, 5, none⟩ = some (.slice wa n3 wc) := S3.co 5
 have f3 := S3.fo 5
 obtain ⟨S4, g4⟩ := S3.set 5 (.slice a3 L3.length d3)
 have HO1' := hid ((HO1.out.below hb3).ge g4 hlt0)
 have HO3 := hid (O3.ge g4 hlt2)
 have HS4 := hid S4
 clear S3 S4 g4 O3 HS2 HO1 p5
 go_upto_region 4 with fail
 generalize w3.setCell ⟨w.heap.size + 1 + 1, 5, none⟩ (.slice a3 L3.length d3) = w4 at *
 have hlt4 := HS4.out.lt
 have p4 : w4.cell? ⟨w.heap.size, 4, none⟩ = some (.slice sa n2 sc) := HS4.out.ci 4
 have hzi4 : w.heap.size < w4.heap.size := by omega
 clear c3 f3 hb3
 go_wp2_with fail
 refine (HNm w4 HS4.out.b).mono ?_
 rintro e w5 ⟨v5, rfl, o5, hb5⟩
 have S5 := HS4.out.below hb5
 have hlt5 := S5.lt
 go_wp2_with fail
 refine (HSp v5 w5 o5).mono ?_
 rintro e w6 ⟨v2, rfl, o2, hb6⟩
 have O2 := o2
 obtain ⟨⟨a2, d2, rfl⟩, _⟩ := o2
 have S6 := S5.below hb6
 have c4 : w6.cell? ⟨w.heap.size + 1 + 1, 4, none⟩ = some (.slice sa n2 sc) := S6.co 4
 have f4 := S6.fo 4
 obtain ⟨S7, g7⟩ := S6.set 4 (.slice a2 G.length d2)
 have HP1 := hid ((((HO1'.out.below hb5).below hb6).ge g7 hlt0).le (B' := w.heap.size) (by omega))
 have HP3 := hid ((((HO3.out.below hb5).below hb6).ge g7 hlt2).le (B' := w.heap.size) (by omega))
 have HP2 := hid ((O2.ge g7 hlt5).le (B' := w.heap.size) (by omega))
 have HS7 := hid S7
 clear S5 S6 S7 g7 O2 HS4 HO1' HO3 p4 o5
 go_upto_region 5 with fail
 generalize w6.setCell ⟨w.heap.size + 1 + 1, 4, none⟩ (.slice a2 G.length d2) = w7 at *
 have q0 : w7.cell? ⟨w.heap.size + 1 + 1, 0, none⟩ = some (.int .i64 s0) := HS7.out.co 0
 have q1 : w7.cell? ⟨w.heap.size + 1 + 1, 1, none⟩ = some (.int .i64 s1) := HS7.out.co 1
 have q2 : w7.cell? ⟨w.heap.size + 1 + 1, 2, none⟩ = some (.int .i64 s2) := HS7.out.co 2
 have q3 : w7.cell? ⟨w.heap.size + 1 + 1, 3, none⟩ = some (.slice a1 L1.length d1) := HS7.out.co 3
 have q4 : w7.cell? ⟨w.heap.size + 1 + 1, 4, none⟩ = some (.slice a2 G.length d2) := HS7.out.co 4
 have q5 : w7.cell? ⟨w.heap.size + 1 + 1, 5, none⟩ = some (.slice a3 L3.length d3) := HS7.out.co 5
 clear c4 f4 hb5 hb6
 go_wp2_with fail
 refine (Hc _ _ _ w7 HP1.out HP2.out HP3.out).mono ?_
 rintro e w8 ⟨rfl, hb8⟩
 have S8 := HS7.out.below hb8
 clear q0 q1 q2 q3 q4 q5
 have hlt8 := S8.lt
 have hw8 := S8.b
 have hz8 := hw8.size
 have q0 : w8.cell? ⟨w.heap.size + 1 + 1, 0, none⟩ = some (.int .i64 s0) := S8.co 0
 have q1 : w8.cell? ⟨w.heap.size + 1 + 1, 1, none⟩ = some (.int .i64 s1) := S8.co 1
 have q2 : w8.cell? ⟨w.heap.size + 1 + 1, 2, none⟩ = some (.int .i64 s2) := S8.co 2
 have q3 : w8.cell? ⟨w.heap.size + 1 + 1, 3, none⟩ = some (.slice a1 L1.length d1) := S8.co 3
 have q4 : w8.cell? ⟨w.heap.size + 1 + 1, 4, none⟩ = some (.slice a2 G.length d2) := S8.co 4
 have q5 : w8.cell? ⟨w.heap.size + 1 + 1, 5, none⟩ = some (.slice a3 L3.length d3) := S8.co 5
 have p4 : w8.cell? ⟨w.heap.size, 4, none⟩ = some (.slice sa n2 sc) := S8.ci 4
 have y0 : w8.cell? ⟨w.heap.size + 1, 0, none⟩ = some (.int .i64 0) := S8.cr 0
 have y1 : w8.cell? ⟨w.heap.size + 1, 1, none⟩ = some (.int .i64 0) := S8.cr 1
 have y2 : w8.cell? ⟨w.heap.size + 1, 2, none⟩ = some (.int .i64 0) := S8.cr 2
 have y3 : w8.cell? ⟨w.heap.size + 1, 3, none⟩ = some (.slice none 0 0) := S8.cr 3
 have y4 : w8.cell? ⟨w.heap.size + 1, 4, none⟩ = some (.slice none 0 0) := S8.cr 4
 have y5 : w8.cell? ⟨w.heap.size + 1, 5, none⟩ = some (.slice none 0 0) := S8.cr 5
 have yf := fun j => S8.fr j
 have hs9 := set6 S8.r (.int .i64 s0) (.int .i64 s1) (.int .i64 s2) (.slice a1 L1.length d1) (.slice a2 G.length d2) (.slice a3 L3.length d3)
 have hsz := set6 S8.r (.int .i64 0) (.int .i64 0) (.int .i64 0) (.slice none 0 0) (.slice none 0 0) (.slice none 0 0)
 have HZ := hid (hw8.grown hsz.2 hz8 (fun k hk => by cases hk; omega))
 have HW9 := hid (hw8.grown hs9.2 hz8 (fun k hk => by cases hk; omega))
 have HQ1 := hid ((HP1.out.below hb8).set hs9.2 S8.r)
 have HQ2 := hid ((HP2.out.below hb8).set hs9.2 S8.r)
 have HQ3 := hid ((HP3.out.below hb8).set hs9.2 S8.r)
 have hl2 : w.heap.size + 1 < w8.heap.size := by omega
 have hl1 : w.heap.size < w8.heap.size := by omega
 clear hs9 hsz S8 HP1 HP2 HP3 HS7 hb8
 rcases hV with rfl | rfl | rfl | rfl
 ·have hci : canI wr 43 = 43 := by cases wr <;> rfl
  go_wp2_with fail
  refine bodyPost_ret (v := .tuple #[.agg #[.int .i64 0, .int .i64 0, .int .i64 0, .slice none 0 0, .slice none 0 0, .slice none 0 0], .int .i64 43]) (by simp [results, Tryz.results44, go_sem, *]) rfl ⟨HZ.out, .inr ⟨by rw [hci]; decide, by rw [hci]⟩⟩
 ·have hci : canI wr 3 = 3 := by cases wr <;> rfl
  go_wp2_with fail
  refine bodyPost_ret (v := .tuple #[.agg #[.int .i64 0, .int .i64 0, .int .i64 0, .slice none 0 0, .slice none 0 0, .slice none 0 0], .int .i64 3]) (by simp [results, Tryz.results44, go_sem, *]) rfl ⟨HZ.out, .inr ⟨by rw [hci]; decide, by rw [hci]⟩⟩
 ·have hci : canI wr 40 = 40 := by cases wr <;> rfl
  go_wp2_with fail
  refine bodyPost_ret (v := .tuple #[.agg #[.int .i64 0, .int .i64 0, .int .i64 0, .slice none 0 0, .slice none 0 0, .slice none 0 0], .int .i64 40]) (by simp [results, Tryz.results44, go_sem, *]) rfl ⟨HZ.out, .inr ⟨by rw [hci]; decide, by rw [hci]⟩⟩
 ·have hlm : n2 ≤ 9223372036854775807 := by have := HS.out.len; rw [HN.out] at this; unfold maxLen at this; omega
  go_wp2_with fail
  go_loop [6, 5] (fun iv ev => ∃ k : Nat, k ≤ n2 ∧ iv = .int .i64 k ∧ ev = .int .i64 (if anyW ss k = true then 41 else 0)) (fun iv _ => n2 - (intOf iv).toNat)
  case atStart => exact ⟨0, Nat.zero_le _, rfl, rfl⟩
  case round =>
   obtain ⟨k, hk, rfl, rfl⟩ := hrel
   by_cases hlt : k < n2
   ·have hlt' : (k : Int) < (n2 : Int) := by omega
    have hil : k < ss.length := by rw [HN.out]; exact hlt
    have hx := sp_some hil
    obtain ⟨l1, l2⟩ := HS.out.lt k hil
    rcases HS.out.row with h0 | ⟨g, o, rfl, hg, hcs⟩
    ·rw [h0] at hil; simp at hil
    obtain ⟨e0, e1, e2, e3⟩ := hcs k hil
    have d0 := (hw8.cell (p := ⟨g, _, none⟩) hg).trans e0
    have d1' := (hw8.cell (p := ⟨g, _, none⟩) hg).trans e1
    have hat := any_take hx
    clear e0 e1 e2 e3 hcs hil hx
    generalize ss[k]?.getD default = s at *
    have N1 := fun W => refNan_any s.lo l1 W
    have N2 := fun W => refNan_any s.hi l2 W
    have hws : wrongS s = (isNaN s.lo || isNaN s.hi) := by unfold wrongS; cases isNaN s.lo <;> cases isNaN s.hi <;> rfl
    rw [hws] at hat
    have HAT := hid hat
    clear hat hws
    cases m1 : isNaN s.lo
    ·cases m2 : isNaN s.hi
     ·have HA2 : Hid (anyW ss (k + 1) = anyW ss k) := hid (by rw [HAT.out, m1, m2]; simp)
      rw [m1] at N1; rw [m2] at N2
      clear m1 m2
      go_wp2_with (first | (go_at_call 79; (with_reducible refine (N1 _).mono ?_); rintro e w' ⟨rfl, rfl⟩) | (go_at_call 79; (with_reducible refine (N2 _).mono ?_); rintro e w' ⟨rfl, rfl⟩))
      go_round
      case rel => exact ⟨k + 1, by omega, by go_num, by rw [HA2.out]⟩
      case measure => simp [intOf]; omega
     ·have HA2 : Hid (anyW ss (k + 1) = true) := hid (by rw [HAT.out, m1, m2]; simp)
      rw [m1] at N1; rw [m2] at N2
      clear m1 m2
      go_wp2_with (first | (go_at_call 79; (with_reducible refine (N1 _).mono ?_); rintro e w' ⟨rfl, rfl⟩) | (go_at_call 79; (with_reducible refine (N2 _).mono ?_); rintro e w' ⟨rfl, rfl⟩))
      go_round
      case rel => exact ⟨k + 1, by omega, by go_num, by rw [HA2.out]; rfl⟩
      case measure => simp [intOf]; omega
    ·have HA2 : Hid (anyW ss (k + 1) = true) := hid (by rw [HAT.out, m1]; simp)
     rw [m1] at N1
     clear m1
     go_wp2_with (first | (go_at_call 79; (with_reducible refine (N1 _).mono ?_); rintro e w' ⟨rfl, rfl⟩) | (go_at_call 79; (with_reducible refine (N2 _).mono ?_); rintro e w' ⟨rfl, rfl⟩))
     go_round
     case rel => exact ⟨k + 1, by omega, by go_num, by rw [HA2.out]; rfl⟩
     case measure => simp [intOf]; omega
   ·obtain rfl : k = n2 := by omega
    have hfin : anyW ss k = wr := by unfold anyW; rw [← HM.out, ← HN.out, List.take_length]
    rw [hfin]
    clear hfin HM
    cases wr
    ·show Code.wp _ _ _ _ _
     simp only [Bool.false_eq_true, if_false]
     go_wp2_with fail
     refine bodyPost_ret (v := .tuple #[.agg #[.int .i64 s0, .int .i64 s1, .int .i64 s2, .slice a1 L1.length d1, .slice a2 G.length d2, .slice a3 L3.length d3], .int .i64 0]) (by simp [results, Tryz.results44, go_sem, *]) rfl ⟨HW9.out, .inl ⟨rfl, _, _, _, rfl, HQ1.out, HQ2.out, HQ3.out⟩⟩
    ·simp only [if_true]
     go_wp2_with fail
     refine bodyPost_ret (v := .tuple #[.agg #[.int .i64 0, .int .i64 0, .int .i64 0, .slice none 0 0, .slice none 0 0, .slice none 0 0], .int .i64 41]) (by simp [results, Tryz.results44, go_sem, *]) rfl ⟨HZ.out, .inr ⟨by decide, rfl⟩⟩
end Go.Proofs.YtekmadgacepdfaaGreat.K
namespace Go.Proofs.YtekmadgacepdfaaGreat.K
set_option linter.unusedVariables false
open Go.RowKit Fl

theorem fsort_bits {l : List CB} (h : strictC l) : fsort (bits l) = l := by
 refine strict_ext (fsort_strict _) h fun x => ?_
 rw [fsort_mem]
 constructor
 ·rintro ⟨b, hb, rfl⟩
  obtain ⟨y, hy, rfl⟩ := List.mem_map.1 hb
  rw [cb_self]; exact hy
 ·intro hx
  exact ⟨x.b, List.mem_map.2 ⟨x, hx, rfl⟩, cb_self x⟩
theorem ordF_out (xs : List Nat) : ordF (bits (fsort xs)) = true := by
 unfold ordF
 rw [fsort_bits (fsort_strict xs), decide_eq_true_eq]
theorem norm_twice' (l : List RK) : refAllN [] (N.forms ((refAllN [] l).map N.RK.raw)) = refAllN [] l := by
 rw [N.raw_forms]
 obtain ⟨h1, h2⟩ := refAllN_spec l [] List.Pairwise.nil
 obtain ⟨h3, h4⟩ := refAllN_spec (refAllN [] l) [] List.Pairwise.nil
 refine gapped_ext h3 h1 fun v => ?_
 rw [h4]
 exact ⟨fun h => h.resolve_left (covL_nil v), .inr⟩
theorem ordS_out (ss : List SpanV) : ordS ((refAllN [] (N.forms ss)).map N.RK.raw) = true := by
 unfold ordS
 rw [norm_twice', decide_eq_true_eq]
theorem hasE_out (G : List RK) : hasE (G.map N.RK.raw) = false := by
 unfold hasE
 rw [List.any_eq_false]
 intro s hs
 obtain ⟨k, _, rfl⟩ := List.mem_map.1 hs
 rw [N.raw_rg]; simp
def outChk (x : SubV) : Int :=
 checkI (SubV.nb x) (decide (16 < (bits (fsort x.rs)).length) || decide (8 < (refAllN [] (N.forms x.ss)).length) || decide (16 < (bits (fsort x.ws)).length)) ((bits (fsort x.rs)).any isNaN) ((bits (fsort x.ws)).any isNaN) false true true true
theorem outChk_is (x : SubV) : outChk x = 43 ∨ outChk x = 3 ∨ outChk x = 40 ∨ outChk x = 0 := by
 unfold outChk
 generalize SubV.nb x = a
 generalize (decide (16 < (bits (fsort x.rs)).length) || decide (8 < (refAllN [] (N.forms x.ss)).length) || decide (16 < (bits (fsort x.ws)).length)) = b
 generalize (bits (fsort x.rs)).any isNaN = c
 generalize (bits (fsort x.ws)).any isNaN = d
 cases a <;> cases b <;> cases c <;> cases d <;> decide
def outV (x : SubV) (a1 a2 a3 : Option Addr) (d1 d2 d3 : Nat) : SubV := ⟨x.s0, x.s1, x.s2, a1, d1, bits (fsort x.rs), a2, d2, (refAllN [] (N.forms x.ss)).map N.RK.raw, a3, d3, bits (fsort x.ws)⟩
theorem check_out (x : SubV) (a1 a2 a3 : Option Addr) (d1 d2 d3 : Nat) : SubV.check (outV x a1 a2 a3 d1 d2 d3) = outChk x := by
 unfold SubV.check outChk
 have e1 : ordF (outV x a1 a2 a3 d1 d2 d3).rs = true := ordF_out x.rs
 have e2 : ordF (outV x a1 a2 a3 d1 d2 d3).ws = true := ordF_out x.ws
 have e3 : ordS (outV x a1 a2 a3 d1 d2 d3).ss = true := ordS_out x.ss
 have e4 : hasE (outV x a1 a2 a3 d1 d2 d3).ss = false := hasE_out _
 rw [e1, e2, e3, e4]
 unfold SubV.mb outV
 simp only [List.length_map]
 rfl
def canC (x : SubV) : Int := canI (x.ss.any wrongS) (outChk x)
def Fits (x : SubV) : Prop := x.rs.length ≤ 17592186044410 ∧ x.ss.length ≤ 5864062014634 ∧ x.ws.length ≤ 17592186044410
theorem out_at {x : SubV} {B1 B2 B3 : Nat} {a1 a2 a3 : Option Addr} {d1 d2 d3 : Nat} {W : World} (hf : Fits x) (h1 : OwnF B1 (bits (fsort x.rs)) (.slice a1 (bits (fsort x.rs)).length d1) W) (h2 : OwnS B2 (refAllN [] (N.forms x.ss)) (.slice a2 (refAllN [] (N.forms x.ss)).length d2) W) (h3 : OwnF B3 (bits (fsort x.ws)) (.slice a3 (bits (fsort x.ws)).length d3) W) :
  (outV x a1 a2 a3 d1 d2 d3).At W := by
 obtain ⟨f1, f2, f3⟩ := hf
 have e1 := fsort_len x.rs
 have e2 := normed_le x.ss
 have e3 := fsort_len x.ws
 exact ⟨own_fat rfl h1.2 (by show (bits (fsort x.rs)).length ≤ _; rw [bits_len]; omega) (bits_lt _), N.own_sat h2.2 (by omega), own_fat rfl h3.2 (by show (bits (fsort x.ws)).length ≤ _; rw [bits_len]; omega) (bits_lt _)⟩

theorem canon_any (x : SubV) (w : World) (h : x.At w) (hf : Fits x) :
  Calls Tryz.prog 42 #[.agg #[.int .i64 x.s0, .int .i64 x.s1, .int .i64 x.s2, .slice x.ra x.rs.length x.rc, .slice x.sa x.ss.length x.sc, .slice x.wa x.ws.length x.wc]] w (CanRet w x.s0 x.s1 x.s2 (bits (fsort x.rs)) (bits (fsort x.ws)) (refAllN [] (N.forms x.ss)) (canC x)) := by
 have hf' := hf
 obtain ⟨f1, f2, f3⟩ := hf'
 refine canon_w x.s0 x.s1 x.s2 x.ra x.sa x.wa x.rs.length x.ss.length x.ws.length x.rc x.sc x.wc _ _ _ (x.ss.any wrongS) (outChk x) w (outChk_is x) (fun W hb => ?_) (fun W hb => ?_) (fun W hb => ?_) (fun W hb => hasWrong_any _ _ _ x.ss _ W rfl (h.s.below hb) rfl) (fun v1 v2 v3 W h1 h2 h3 => ?_)
 ·refine (fsort_any x.ra x.rc _ x.rs W rfl (h.r.below hb) (by omega)).mono fun e W' ⟨a, c, g1, g2, g3⟩ => ?_
  exact ⟨_, g1, ⟨⟨a, c, by rw [bits_len]⟩, by rw [bits_len]; exact own_le g2 hb.size⟩, g3⟩
 ·refine (fsort_any x.wa x.wc _ x.ws W rfl (h.w.below hb) (by omega)).mono fun e W' ⟨a, c, g1, g2, g3⟩ => ?_
  exact ⟨_, g1, ⟨⟨a, c, by rw [bits_len]⟩, by rw [bits_len]; exact own_le g2 hb.size⟩, g3⟩
 ·exact (N.norm_any' x.sa x.sc x.ss _ W rfl (h.s.below hb) (by omega)).mono fun e W' ⟨a, c, g1, g2, g3⟩ => ⟨_, g1, ⟨⟨a, c, rfl⟩, own_le g2 hb.size⟩, g3⟩
 ·obtain ⟨⟨a1, d1, rfl⟩, _⟩ := id h1
  obtain ⟨⟨a2, d2, rfl⟩, _⟩ := id h2
  obtain ⟨⟨a3, d3, rfl⟩, _⟩ := id h3
  have hc := check_any (outV x a1 a2 a3 d1 d2 d3) W (out_at hf h1 h2 h3)
  rw [check_out] at hc
  unfold outV at hc
  simp only [List.length_map] at hc
  exact hc
theorem refCanon_any (x : SubV) (w : World) (h : x.At w) (hf : Fits x) :
  Calls Tryz.prog 44 #[.agg #[.int .i64 x.s0, .int .i64 x.s1, .int .i64 x.s2, .slice x.ra x.rs.length x.rc, .slice x.sa x.ss.length x.sc, .slice x.wa x.ws.length x.wc]] w (CanRet w x.s0 x.s1 x.s2 (bits (fsort x.rs)) (bits (fsort x.ws)) (refAllN [] (N.forms x.ss)) (canC x)) := by
 have hf' := hf
 obtain ⟨f1, f2, f3⟩ := hf'
 refine refCanon_w x.s0 x.s1 x.s2 x.ra x.sa x.wa x.rs.length x.ss.length x.ws.length x.rc x.sc x.wc x.ss _ _ _ (x.ss.any wrongS) (outChk x) w (outChk_is x) (hid rfl) (hid h.s) (hid rfl) (fun W hb => ?_) (fun W hb => ?_) (fun W hb => ?_) (fun v W hv => ?_) (fun v1 v2 v3 W h1 h2 h3 => ?_)
 ·refine (refSort_any x.ra x.rc _ x.rs W rfl (h.r.below hb) (by omega)).mono fun e W' ⟨a, c, g1, g2, g3⟩ => ?_
  rw [sort_same] at g1 g2
  exact ⟨_, g1, ⟨⟨a, c, by rw [bits_len]⟩, by rw [bits_len]; exact g2⟩, g3⟩
 ·refine (refSort_any x.wa x.wc _ x.ws W rfl (h.w.below hb) (by omega)).mono fun e W' ⟨a, c, g1, g2, g3⟩ => ?_
  rw [sort_same] at g1 g2
  exact ⟨_, g1, ⟨⟨a, c, by rw [bits_len]⟩, by rw [bits_len]; exact g2⟩, g3⟩
 ·exact (N.refNorm_any x.sa x.sc x.ss _ W rfl (h.s.below hb) (by omega)).mono fun e W' ⟨a, c, g1, g2, g3⟩ => ⟨_, g1, ⟨_, ⟨a, c, rfl⟩, g2⟩, g3⟩
 ·obtain ⟨base, ⟨a, c, rfl⟩, ho⟩ := hv
  have := normed_le x.ss
  exact (N.refSpans_any a c base _ W ho (by omega)).mono fun e W' ⟨a', c', g1, g2, g3⟩ => ⟨_, g1, ⟨⟨a', c', rfl⟩, g2⟩, g3⟩
 ·obtain ⟨⟨a1, d1, rfl⟩, _⟩ := id h1
  obtain ⟨⟨a2, d2, rfl⟩, _⟩ := id h2
  obtain ⟨⟨a3, d3, rfl⟩, _⟩ := id h3
  have hc := refCheck_any (outV x a1 a2 a3 d1 d2 d3) W (out_at hf h1 h2 h3)
  rw [check_out] at hc
  unfold outV at hc
  simp only [List.length_map] at hc
  exact hc
end Go.Proofs.YtekmadgacepdfaaGreat.K
