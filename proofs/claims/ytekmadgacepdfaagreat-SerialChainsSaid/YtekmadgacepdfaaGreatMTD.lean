/- Several texts as one: TD TE TG TH. -/
import Derived.Test.YtekmadgacepdfaaGreatMTA
import Derived.Test.YtekmadgacepdfaaGreatS4
import Derived.Test.YtekmadgacepdfaaGreatKG
namespace Go.Proofs.YtekmadgacepdfaaGreat.T
set_option linter.unusedVariables false
open Go.RowKit Fl
set_option linter.unusedSimpArgs false

def dEnc (d : DoneV) : List Value := [.int .i64 d.num, .int .i64 d.s.s0, .int .i64 d.s.s1, .int .i64 d.s.s2, .slice d.s.ra d.s.rs.length d.s.rc, .slice d.s.sa d.s.ss.length d.s.sc, .slice d.s.wa d.s.ws.length d.s.wc]
def noDone : DoneV := ⟨0, ⟨0, 0, 0, none, 0, [], none, 0, [], none, 0, []⟩⟩
instance : Inhabited DoneV := ⟨noDone⟩
/-- A history lies at a slice's address. -/
structure HAt (w : World) (a : Option Addr) (ds : List DoneV) : Prop where
 row : ds = [] ∨ ∃ b o, a = some ⟨b, o, none⟩ ∧ b < w.heap.size ∧ ∀ i, i < ds.length → ∀ t v, (dEnc (ds[i]?.getD default))[t]? = some v → w.cell? ⟨b, o + i * 7 + t, none⟩ = some v
 sub : ∀ i, i < ds.length → (ds[i]?.getD default).s.At w
 len : ds.length ≤ 4398046511104
theorem HAt.below {w w' : World} {a : Option Addr} {ds : List DoneV} (h : HAt w a ds) (hb : Below w.heap.size w w') : HAt w' a ds := by
 refine ⟨?_, fun i hi => (h.sub i hi).below hb, h.len⟩
 rcases h.row with h0 | ⟨b, o, h1, h2, h3⟩
 ·exact .inl h0
 ·exact .inr ⟨b, o, h1, Nat.lt_of_lt_of_le h2 hb.size, fun i hi t v hv => (hb.cell (p := ⟨b, o + i * 7 + t, none⟩) h2).trans (h3 i hi t v hv)⟩
theorem HAt.take {w : World} {a : Option Addr} {ds : List DoneV} (h : HAt w a ds) (n : Nat) : HAt w a (ds.take n) := by
 have key : ∀ i, i < (ds.take n).length → i < ds.length ∧ (ds.take n)[i]? = ds[i]? := fun i hi => by
  rw [List.length_take] at hi
  exact ⟨by omega, by rw [List.getElem?_take, if_pos (by omega)]⟩
 refine ⟨?_, fun i hi => by rw [(key i hi).2]; exact h.sub i (key i hi).1, by have := h.len; rw [List.length_take]; omega⟩
 rcases h.row with h0 | ⟨b, o, h1, h2, h3⟩
 ·exact .inl (by rw [h0]; simp)
 ·exact .inr ⟨b, o, h1, h2, fun i hi t v hv => h3 i (key i hi).1 t v (by rw [← (key i hi).2]; exact hv)⟩
/-- A transaction lies in a box. -/
def DBox (w : World) (B : Nat) (d : DoneV) : Prop := B < w.heap.size ∧ ∀ t v, (dEnc d)[t]? = some v → w.cell? ⟨B, t, none⟩ = some v
theorem DBox.below {w w' : World} {B : Nat} {d : DoneV} (h : DBox w B d) (hb : Below w.heap.size w w') : DBox w' B d :=
 ⟨Nat.lt_of_lt_of_le h.1 hb.size, fun t v hv => (hb.cell (p := ⟨B, t, none⟩) h.1).trans (h.2 t v hv)⟩
theorem DBox.mk7 {w : World} {B : Nat} {d : DoneV} (hB : B < w.heap.size) (h0 : w.cell? ⟨B, 0, none⟩ = some (.int .i64 d.num)) (h1 : w.cell? ⟨B, 1, none⟩ = some (.int .i64 d.s.s0)) (h2 : w.cell? ⟨B, 2, none⟩ = some (.int .i64 d.s.s1)) (h3 : w.cell? ⟨B, 3, none⟩ = some (.int .i64 d.s.s2)) (h4 : w.cell? ⟨B, 4, none⟩ = some (.slice d.s.ra d.s.rs.length d.s.rc)) (h5 : w.cell? ⟨B, 5, none⟩ = some (.slice d.s.sa d.s.ss.length d.s.sc)) (h6 : w.cell? ⟨B, 6, none⟩ = some (.slice d.s.wa d.s.ws.length d.s.wc)) : DBox w B d := by
 refine ⟨hB, fun t v hv => ?_⟩
 match t, hv with
 | 0, hv => cases hv; exact h0
 | 1, hv => cases hv; exact h1
 | 2, hv => cases hv; exact h2
 | 3, hv => cases hv; exact h3
 | 4, hv => cases hv; exact h4
 | 5, hv => cases hv; exact h5
 | 6, hv => cases hv; exact h6
theorem DBox.of_alloc {w : World} {d : DoneV} (T : TypeId) : DBox (w.alloc (.cells (dEnc d).toArray T (0, 0))) w.heap.size d := by
 refine ⟨by simp, fun t v hv => ?_⟩
 rw [cell_of_row _ _ _ _ _ (0, 0) (heap_alloc_new w _)]
 simpa using hv

theorem beside_any (a b : DoneV) (v : Bool) (w : World) (hv : besideV a b = v) :
  Calls Tryz.prog 102 #[.agg #[.int .i64 a.num, .int .i64 a.s.s0, .int .i64 a.s.s1, .int .i64 a.s.s2, .slice a.s.ra a.s.rs.length a.s.rc, .slice a.s.sa a.s.ss.length a.s.sc, .slice a.s.wa a.s.ws.length a.s.wc], .agg #[.int .i64 b.num, .int .i64 b.s.s0, .int .i64 b.s.s1, .int .i64 b.s.s2, .slice b.s.ra b.s.rs.length b.s.rc, .slice b.s.sa b.s.ss.length b.s.sc, .slice b.s.wa b.s.ws.length b.s.wc]] w (Ret (.bool v) w) := by
 unfold besideV at hv
 obtain ⟨an, a0, a1, a2, ra, rc, rs, sa, sc, ss, wa, wc, ws⟩ := a
 obtain ⟨bn, b0, b1, b2, qa, qc, qs, ta, tc, ts, ua, uc, us⟩ := b
 simp only at hv ⊢
 generalize rs.length = n1 at *
 generalize ss.length = n2 at *
 generalize ws.length = n3 at *
 generalize qs.length = n4 at *
 generalize ts.length = n5 at *
 generalize us.length = n6 at *
 by_cases h1 : a2 < bn
 ·by_cases h2 : b2 < an
  ·obtain rfl : true = v := by rw [← hv]; simp [h1, h2]
   clear hv
   go_enter Tryz.func102, Tryz.ntmps102
   go_wp2
   go_ret
   exact ⟨rfl, by exact below_auto⟩
  ·obtain rfl : false = v := by rw [← hv]; simp [h1, h2]
   clear hv
   go_enter Tryz.func102, Tryz.ntmps102
   go_wp2
   go_ret
   exact ⟨rfl, by exact below_auto⟩
 ·obtain rfl : false = v := by rw [← hv]; simp [h1]
  clear hv
  go_enter Tryz.func102, Tryz.ntmps102
  go_wp2
  go_ret
  exact ⟨rfl, by exact below_auto⟩
theorem clash1_any (d : DoneV) (key B : Nat) (w : World) (hd : d.s.At w) (hB : DBox w B d) :
  Calls Tryz.prog 103 #[.float .f64 key, .pointer (some ⟨B, 0, none⟩)] w (Ret (.bool (d.s.writes key)) w) := by
 have H := subWrites_any d.s key w hd
 generalize d.s.writes key = v at *
 have hlt := hB.1
 have h1 := hB.2 1 _ rfl
 have h2 := hB.2 2 _ rfl
 have h3 := hB.2 3 _ rfl
 have h4 := hB.2 4 _ rfl
 have h5 := hB.2 5 _ rfl
 have h6 := hB.2 6 _ rfl
 clear hB hd
 obtain ⟨dn, s0, s1, s2, ra, rc, rs, sa, sc, ss, wa, wc, ws⟩ := d
 simp only at *
 generalize rs.length = n1 at *
 generalize ss.length = n2 at *
 generalize ws.length = n3 at *
 go_enter Tryz.func103, Tryz.ntmps103
 go_wp2_with (go_at_call 65; (with_reducible refine (H).mono ?_); rintro e w1 ⟨rfl, hb1⟩; obtain ⟨hc1, hf1⟩ := bcell hb1; (try simp only [World.heap_drewN, World.cell?_drewN, World.frozen?_drewN] at hc1 hf1); have hz1 := hb1.size; (try simp at hz1); (try have hy1_0 : w.heap.size < w1.heap.size := by omega); (try have hy1_1 : w.heap.size + 1 < w1.heap.size := by omega); (try have hx1_0 : w.heap.size ≤ w1.heap.size := by omega); (try have hx1_1 : w.heap.size + 1 ≤ w1.heap.size := by omega))
 go_ret
 exact ⟨rfl, by exact below_auto⟩
theorem slIndexClashF_any (d : DoneV) (a : Option Addr) (c B : Nat) (xs : List Nat) (n : Nat) (w : World) (hn : xs.length = n) (h : FAt w a xs) (hx : d.s.At w) (hB : DBox w B d) :
  Calls Tryz.prog 137 #[.slice a n c, .func (.func 103) #[] #[.pointer (some ⟨B, 0, none⟩)]] w (Ret (.int .i64 (idxB (fun k => d.s.writes k) xs)) w) := by
 have HM : ∀ (W : World) (key : Nat), Below w.heap.size w W → Calls Tryz.prog 103 #[.float .f64 key, .pointer (some ⟨B, 0, none⟩)] W (Ret (.bool (d.s.writes key)) W) := fun W key hb => clash1_any d key B W (hx.below hb) (hB.below hb)
 obtain ⟨hr, hl, hm⟩ := h
 unfold maxLen at hm
 clear hl hB hx
 generalize d.s.writes = P at *
 rcases hr with rfl | ⟨b, o, rfl, hb, hc⟩
 ·simp only [List.length_nil] at hn
  subst hn
  have e : idxB (fun k : Nat => P k) [] = -1 := rfl
  rw [e]
  clear e
  go_enter Tryz.func137, Tryz.ntmps137
  go_wp2
  go_loop [8] (fun i => i = .int .i64 0) (fun _ => 0)
  case atStart => rfl
  case round =>
   subst hrel
   go_wp2
   go_ret
   exact ⟨rfl, Below.refl _ _⟩
 ·have HC := hid hc; have HN := hid hn
  rw [hn] at hm
  clear hc hn
  go_enter Tryz.func137, Tryz.ntmps137
  go_wp2
  go_loopw [8] (fun i wr => ∃ k : Nat, k ≤ n ∧ i = .int .i64 k ∧ Hid (∀ j : Nat, j < k → ∀ y, xs[j]? = some y → P y = false) ∧ Below w.heap.size w wr) (fun i _ => n - (intOf i).toNat)
  case atStart => exact ⟨0, Nat.zero_le _, rfl, hid fun j hj => absurd hj (Nat.not_lt_zero _), Below.refl _ _⟩
  case round =>
   obtain ⟨k, hk, rfl, HR, hbw⟩ := hrel
   by_cases hlt : k < n
   ·have c0 := HC.out k (by rw [HN.out]; exact hlt)
    have hlt' : (k : Int) < (n : Int) := by omega
    have hsz := hbw.size
    have hkx := hid (fl_some (xs := xs) (k := k) (by rw [HN.out]; exact hlt))
    have d0 := (hbw.cell (p := ⟨b, _, none⟩) hb).trans c0
    clear c0
    generalize hs : xs[k]?.getD 0 = s at *
    clear hs
    have H := HM wr s hbw
    cases hp : P s
    ·rw [hp] at H
     have HP := hid hp
     clear hp
     go_wp2_with (go_at_call 103; (with_reducible refine (H).mono ?_); rintro e w1 ⟨rfl, hb1⟩; obtain ⟨hc1, hf1⟩ := bcell hb1; (try simp only [World.heap_drewN, World.cell?_drewN, World.frozen?_drewN] at hc1 hf1); have hz1 := hb1.size; (try simp at hz1); (try have hy1_0 : w.heap.size < w1.heap.size := by omega); (try have hy1_1 : w.heap.size + 1 < w1.heap.size := by omega); (try have hx1_0 : w.heap.size ≤ w1.heap.size := by omega); (try have hx1_1 : w.heap.size + 1 ≤ w1.heap.size := by omega))
     go_roundw
     case rel => exact ⟨k + 1, by omega, by go_num, hid fun j hj y hy => by
       by_cases h : j < k
       ·exact HR.out j h y hy
       ·obtain rfl : j = k := by omega
        rw [hkx.out] at hy; cases hy; exact HP.out, by exact below_auto⟩
     case measure => simp [intOf]; omega
    ·rw [hp] at H
     have HP := hid hp
     clear hp
     go_wp2_with (go_at_call 103; (with_reducible refine (H).mono ?_); rintro e w1 ⟨rfl, hb1⟩; obtain ⟨hc1, hf1⟩ := bcell hb1; (try simp only [World.heap_drewN, World.cell?_drewN, World.frozen?_drewN] at hc1 hf1); have hz1 := hb1.size; (try simp at hz1); (try have hy1_0 : w.heap.size < w1.heap.size := by omega); (try have hy1_1 : w.heap.size + 1 < w1.heap.size := by omega); (try have hx1_0 : w.heap.size ≤ w1.heap.size := by omega); (try have hx1_1 : w.heap.size + 1 ≤ w1.heap.size := by omega))
     go_ret
     exact ⟨ret_int (by rw [idxB_some (p := fun k => P k) hkx.out HP.out HR.out]), by exact below_auto⟩
   ·obtain rfl : k = n := by omega
    go_wp2
    go_ret
    refine ⟨ret_int ?_, by exact below_auto⟩
    rw [idxB_none]
    intro i y hy
    refine HR.out i ?_ y hy
    have := (List.getElem?_eq_some_iff.1 hy).1
    have := HN.out
    omega
theorem slClashF_any (d : DoneV) (a : Option Addr) (c B : Nat) (xs : List Nat) (n : Nat) (w : World) (hn : xs.length = n) (h : FAt w a xs) (hx : d.s.At w) (hB : DBox w B d) :
  Calls Tryz.prog 95 #[.slice a n c, .func (.func 103) #[] #[.pointer (some ⟨B, 0, none⟩)]] w (Ret (.bool (xs.any fun k => d.s.writes k)) w) := by
 have H := slIndexClashF_any d a c B xs n w hn h hx hB
 rw [← idxB_any]
 generalize idxB (fun k : Nat => d.s.writes k) xs = r at *
 clear hB hn
 go_enter Tryz.func95, Tryz.ntmps95
 go_wp2_with (go_at_call 137; (with_reducible refine (H).mono ?_); rintro e w1 ⟨rfl, hb1⟩; obtain ⟨hc1, hf1⟩ := bcell hb1; (try simp only [World.heap_drewN, World.cell?_drewN, World.frozen?_drewN] at hc1 hf1); have hz1 := hb1.size; (try simp at hz1); (try have hy1_0 : w.heap.size < w1.heap.size := by omega); (try have hy1_1 : w.heap.size + 1 < w1.heap.size := by omega); (try have hx1_0 : w.heap.size ≤ w1.heap.size := by omega); (try have hx1_1 : w.heap.size + 1 ≤ w1.heap.size := by omega))
 go_ret
 exact ⟨rfl, by exact below_auto⟩
theorem clash_any (a b : DoneV) (v : Bool) (w : World) (ha : a.s.At w) (hb : b.s.At w) (hv : clashV a b = v) :
  Calls Tryz.prog 57 #[.agg #[.int .i64 a.num, .int .i64 a.s.s0, .int .i64 a.s.s1, .int .i64 a.s.s2, .slice a.s.ra a.s.rs.length a.s.rc, .slice a.s.sa a.s.ss.length a.s.sc, .slice a.s.wa a.s.ws.length a.s.wc], .agg #[.int .i64 b.num, .int .i64 b.s.s0, .int .i64 b.s.s1, .int .i64 b.s.s2, .slice b.s.ra b.s.rs.length b.s.rc, .slice b.s.sa b.s.ss.length b.s.sc, .slice b.s.wa b.s.ws.length b.s.wc]] w (Ret (.bool v) w) := by
 have HB := fun W bv hbv => beside_any a b bv W hbv
 have HC := fun W (hw : Below w.heap.size w W) hx => slClashF_any b a.s.wa a.s.wc (w.heap.size + 1) a.s.ws a.s.ws.length W rfl (ha.w.below hw) (hb.below hw) hx
 unfold clashV at hv
 cases hbe : besideV a b
 ·have HB := fun W => HB W false hbe
  rw [hbe, Bool.false_and] at hv
  subst hv
  clear HC hbe ha hb
  obtain ⟨an, a0, a1, a2, ra, rc, rs, sa, sc, ss, wa, wc, ws⟩ := a
  obtain ⟨bn, b0, b1, b2, qa, qc, qs, ta, tc, ts, ua, uc, us⟩ := b
  simp only at *
  generalize rs.length = n1 at *
  generalize ss.length = n2 at *
  generalize ws.length = n3 at *
  generalize qs.length = n4 at *
  generalize ts.length = n5 at *
  generalize us.length = n6 at *
  go_enter Tryz.func57, Tryz.ntmps57
  go_wp2_with (go_at_call 102; (with_reducible refine (HB _).mono ?_); rintro e w1 ⟨rfl, hb1⟩; obtain ⟨hc1, hf1⟩ := bcell hb1; (try simp only [World.heap_drewN, World.cell?_drewN, World.frozen?_drewN] at hc1 hf1); have hz1 := hb1.size; (try simp at hz1); (try have hy1_0 : w.heap.size < w1.heap.size := by omega); (try have hy1_1 : w.heap.size + 1 < w1.heap.size := by omega); (try have hx1_0 : w.heap.size ≤ w1.heap.size := by omega); (try have hx1_1 : w.heap.size + 1 ≤ w1.heap.size := by omega))
  go_ret
  exact ⟨rfl, by exact below_auto⟩
 ·have HB := fun W => HB W true hbe
  rw [hbe, Bool.true_and] at hv
  rw [hv] at HC
  have HX := fun W (hw : Below (w.heap.size + 1 + 1) ((w.alloc (.cells (dEnc a).toArray 73 (0, 0))).alloc (.cells (dEnc b).toArray 73 (0, 0))) W) => HC W (((((Below.refl _ _).alloc (Nat.le_refl _) _).alloc (by simp) _).trans (hw.mono (by omega)))) (by
   have h1 := DBox.of_alloc (w := w.alloc (.cells (dEnc a).toArray 73 (0, 0))) (d := b) 73
   rw [show (w.alloc (.cells (dEnc a).toArray 73 (0, 0))).heap.size = w.heap.size + 1 by simp] at h1
   exact h1.below (hw.mono (by simp)))
  clear HC hbe ha hb hv
  unfold dEnc at HX
  obtain ⟨an, a0, a1, a2, ra, rc, rs, sa, sc, ss, wa, wc, ws⟩ := a
  obtain ⟨bn, b0, b1, b2, qa, qc, qs, ta, tc, ts, ua, uc, us⟩ := b
  simp only at *
  generalize rs.length = n1 at *
  generalize ss.length = n2 at *
  generalize ws.length = n3 at *
  generalize qs.length = n4 at *
  generalize ts.length = n5 at *
  generalize us.length = n6 at *
  go_enter Tryz.func57, Tryz.ntmps57
  go_wp2_with (first | (go_at_call 102; (with_reducible refine (HB _).mono ?_); rintro e w1 ⟨rfl, hb1⟩; obtain ⟨hc1, hf1⟩ := bcell hb1; (try simp only [World.heap_drewN, World.cell?_drewN, World.frozen?_drewN] at hc1 hf1); have hz1 := hb1.size; (try simp at hz1); (try have hy1_0 : w.heap.size < w1.heap.size := by omega); (try have hy1_1 : w.heap.size + 1 < w1.heap.size := by omega); (try have hx1_0 : w.heap.size ≤ w1.heap.size := by omega); (try have hx1_1 : w.heap.size + 1 ≤ w1.heap.size := by omega)) | (go_at_call 95; (with_reducible refine (HX _ (by exact below_auto)).mono ?_); rintro e w2 ⟨rfl, hb2⟩; obtain ⟨hc2, hf2⟩ := bcell hb2; (try simp only [World.heap_drewN, World.cell?_drewN, World.frozen?_drewN] at hc2 hf2); have hz2 := hb2.size; (try simp at hz2); (try have hy2_0 : w.heap.size < w2.heap.size := by omega); (try have hy2_1 : w.heap.size + 1 < w2.heap.size := by omega); (try have hx2_0 : w.heap.size ≤ w2.heap.size := by omega); (try have hx2_1 : w.heap.size + 1 ≤ w2.heap.size := by omega)))
  go_ret
  exact ⟨rfl, by exact below_auto⟩
end Go.Proofs.YtekmadgacepdfaaGreat.T
namespace Go.Proofs.YtekmadgacepdfaaGreat.T
set_option linter.unusedVariables false
open Go.RowKit Fl
set_option linter.unusedSimpArgs false

theorem right1_any (x d : DoneV) (B : Nat) (w : World) (hx : x.s.At w) (hd : d.s.At w) (hB : DBox w B d) :
  Calls Tryz.prog 56 #[.agg #[.int .i64 x.num, .int .i64 x.s.s0, .int .i64 x.s.s1, .int .i64 x.s.s2, .slice x.s.ra x.s.rs.length x.s.rc, .slice x.s.sa x.s.ss.length x.s.sc, .slice x.s.wa x.s.ws.length x.s.wc], .pointer (some ⟨B, 0, none⟩)] w (Ret (.bool (clashV x d)) w) := by
 have H := fun W (hb : Below w.heap.size w W) => clash_any x d _ W (hx.below hb) (hd.below hb) rfl
 generalize clashV x d = v at *
 have hlt := hB.1
 have h0 := hB.2 0 _ rfl
 have h1 := hB.2 1 _ rfl
 have h2 := hB.2 2 _ rfl
 have h3 := hB.2 3 _ rfl
 have h4 := hB.2 4 _ rfl
 have h5 := hB.2 5 _ rfl
 have h6 := hB.2 6 _ rfl
 clear hB hd hx
 obtain ⟨an, a0, a1, a2, ra, rc, rs, sa, sc, ss, wa, wc, ws⟩ := x
 obtain ⟨bn, b0, b1, b2, qa, qc, qs, ta, tc, ts, ua, uc, us⟩ := d
 simp only at *
 generalize rs.length = n1 at *
 generalize ss.length = n2 at *
 generalize ws.length = n3 at *
 generalize qs.length = n4 at *
 generalize ts.length = n5 at *
 generalize us.length = n6 at *
 go_enter Tryz.func56, Tryz.ntmps56
 go_wp2_with (go_at_call 57; (with_reducible refine (H _ (by exact below_auto)).mono ?_); rintro e w1 ⟨rfl, hb1⟩; obtain ⟨hc1, hf1⟩ := bcell hb1; (try simp only [World.heap_drewN, World.cell?_drewN, World.frozen?_drewN] at hc1 hf1); have hz1 := hb1.size; (try simp at hz1); (try have hy1_0 : w.heap.size < w1.heap.size := by omega); (try have hy1_1 : w.heap.size + 1 < w1.heap.size := by omega); (try have hx1_0 : w.heap.size ≤ w1.heap.size := by omega); (try have hx1_1 : w.heap.size + 1 ≤ w1.heap.size := by omega))
 go_ret
 exact ⟨rfl, by exact below_auto⟩
theorem slIndexClash_any (P : DoneV → Bool) (a : Option Addr) (c B : Nat) (xs : List DoneV) (n : Nat) (w : World) (hn : xs.length = n) (h : HAt w a xs)
  (HM : ∀ (W : World) (x : DoneV), Below w.heap.size w W → x.s.At w → x ∈ xs → Calls Tryz.prog 56 #[.agg #[.int .i64 x.num, .int .i64 x.s.s0, .int .i64 x.s.s1, .int .i64 x.s.s2, .slice x.s.ra x.s.rs.length x.s.rc, .slice x.s.sa x.s.ss.length x.s.sc, .slice x.s.wa x.s.ws.length x.s.wc], .pointer (some ⟨B, 0, none⟩)] W (Ret (.bool (P x)) W)) :
  Calls Tryz.prog 101 #[.slice a n c, .func (.func 56) #[] #[.pointer (some ⟨B, 0, none⟩)]] w (Ret (.int .i64 (idxB P xs)) w) := by
 have hm := h.len
 have HX := hid h
 clear h
 by_cases h0 : xs = []
 ·subst h0
  simp only [List.length_nil] at hn
  subst hn
  have e : idxB P [] = -1 := rfl
  rw [e]
  clear e HX hm HM
  go_enter Tryz.func101, Tryz.ntmps101
  go_wp2
  go_loop [8] (fun i => i = .int .i64 0) (fun _ => 0)
  case atStart => rfl
  case round =>
   subst hrel
   go_wp2
   go_ret
   exact ⟨rfl, Below.refl _ _⟩
 ·have HN := hid hn
  rw [hn] at hm
  clear hn h0
  go_enter Tryz.func101, Tryz.ntmps101
  go_wp2
  go_loopw [8] (fun i wr => ∃ k : Nat, k ≤ n ∧ i = .int .i64 k ∧ Hid (∀ j : Nat, j < k → ∀ y, xs[j]? = some y → P y = false) ∧ Below w.heap.size w wr) (fun i _ => n - (intOf i).toNat)
  case atStart => exact ⟨0, Nat.zero_le _, rfl, hid fun j hj => absurd hj (Nat.not_lt_zero _), Below.refl _ _⟩
  case round =>
   obtain ⟨k, hk, rfl, HR, hbw⟩ := hrel
   by_cases hlt : k < n
   ·have hkl : k < xs.length := by rw [HN.out]; exact hlt
    have hlt' : (k : Int) < (n : Int) := by omega
    have hsz := hbw.size
    have hkx : Hid (xs[k]? = some (xs[k]?.getD default)) := hid (by rw [List.getElem?_eq_getElem hkl]; rfl)
    rcases (HX.out.below hbw).row with h0 | ⟨b, o, ha, hbl, hc⟩
    ·rw [h0] at hkl; simp at hkl
    subst ha
    have hc := hc k hkl
    have hs := HX.out.sub k hkl
    have hmem : xs[k]?.getD default ∈ xs := List.mem_of_getElem? hkx.out
    have H := HM wr _ hbw hs hmem
    clear hs hmem hkl
    generalize xs[k]?.getD default = x at *
    have c0 : wr.cell? ⟨b, o + k * 7, none⟩ = some (.int .i64 x.num) := hc 0 _ rfl
    have c1 := hc 1 _ rfl
    have c2 := hc 2 _ rfl
    have c3 := hc 3 _ rfl
    have c4 := hc 4 _ rfl
    have c5 := hc 5 _ rfl
    have c6 := hc 6 _ rfl
    clear hc
    cases hp : P x
    ·rw [hp] at H
     have HP := hid hp
     clear hp
     go_wp2_with (go_at_call 56; (with_reducible refine (H).mono ?_); rintro e w1 ⟨rfl, hb1⟩; obtain ⟨hc1, hf1⟩ := bcell hb1; (try simp only [World.heap_drewN, World.cell?_drewN, World.frozen?_drewN] at hc1 hf1); have hz1 := hb1.size; (try simp at hz1); (try have hy1_0 : w.heap.size < w1.heap.size := by omega); (try have hy1_1 : w.heap.size + 1 < w1.heap.size := by omega); (try have hx1_0 : w.heap.size ≤ w1.heap.size := by omega); (try have hx1_1 : w.heap.size + 1 ≤ w1.heap.size := by omega))
     go_roundw
     case rel => exact ⟨k + 1, by omega, by go_num, hid fun j hj y hy => by
       by_cases h : j < k
       ·exact HR.out j h y hy
       ·obtain rfl : j = k := by omega
        rw [hkx.out] at hy; cases hy; exact HP.out, by exact below_auto⟩
     case measure => simp [intOf]; omega
    ·rw [hp] at H
     have HP := hid hp
     clear hp
     go_wp2_with (go_at_call 56; (with_reducible refine (H).mono ?_); rintro e w1 ⟨rfl, hb1⟩; obtain ⟨hc1, hf1⟩ := bcell hb1; (try simp only [World.heap_drewN, World.cell?_drewN, World.frozen?_drewN] at hc1 hf1); have hz1 := hb1.size; (try simp at hz1); (try have hy1_0 : w.heap.size < w1.heap.size := by omega); (try have hy1_1 : w.heap.size + 1 < w1.heap.size := by omega); (try have hx1_0 : w.heap.size ≤ w1.heap.size := by omega); (try have hx1_1 : w.heap.size + 1 ≤ w1.heap.size := by omega))
     go_ret
     exact ⟨ret_int (by rw [idxB_some (p := P) hkx.out HP.out HR.out]), by exact below_auto⟩
   ·obtain rfl : k = n := by omega
    go_wp2
    go_ret
    refine ⟨ret_int ?_, by exact below_auto⟩
    rw [idxB_none]
    intro i y hy
    refine HR.out i ?_ y hy
    have := (List.getElem?_eq_some_iff.1 hy).1
    have := HN.out
    omega
theorem slClash_any (P : DoneV → Bool) (a : Option Addr) (c B : Nat) (xs : List DoneV) (n : Nat) (v : Bool) (w : World) (hn : xs.length = n) (h : HAt w a xs)
  (HM : ∀ (W : World) (x : DoneV), Below w.heap.size w W → x.s.At w → x ∈ xs → Calls Tryz.prog 56 #[.agg #[.int .i64 x.num, .int .i64 x.s.s0, .int .i64 x.s.s1, .int .i64 x.s.s2, .slice x.s.ra x.s.rs.length x.s.rc, .slice x.s.sa x.s.ss.length x.s.sc, .slice x.s.wa x.s.ws.length x.s.wc], .pointer (some ⟨B, 0, none⟩)] W (Ret (.bool (P x)) W)) (hv : xs.any P = v) :
  Calls Tryz.prog 55 #[.slice a n c, .func (.func 56) #[] #[.pointer (some ⟨B, 0, none⟩)]] w (Ret (.bool v) w) := by
 have H := slIndexClash_any P a c B xs n w hn h HM
 rw [← idxB_any] at hv
 generalize idxB P xs = r at *
 subst hv
 clear hn h HM
 go_enter Tryz.func55, Tryz.ntmps55
 go_wp2_with (go_at_call 101; (with_reducible refine (H).mono ?_); rintro e w1 ⟨rfl, hb1⟩; obtain ⟨hc1, hf1⟩ := bcell hb1; (try simp only [World.heap_drewN, World.cell?_drewN, World.frozen?_drewN] at hc1 hf1); have hz1 := hb1.size; (try simp at hz1); (try have hy1_0 : w.heap.size < w1.heap.size := by omega); (try have hy1_1 : w.heap.size + 1 < w1.heap.size := by omega); (try have hx1_0 : w.heap.size ≤ w1.heap.size := by omega); (try have hx1_1 : w.heap.size + 1 ≤ w1.heap.size := by omega))
 go_ret
 exact ⟨rfl, by exact below_auto⟩
set_option maxHeartbeats 1000000 in
set_option maxRecDepth 100000 in
theorem right_any (a : Option Addr) (c n : Nat) (h : List DoneV) (v : Bool) (w : World) (hn : h.length = n) (hcap : n ≤ c) (hh : HAt w a h) (hv : rightV h = v) :
  Calls Tryz.prog 29 #[.slice a n c] w (Ret (.bool v) w) := by
 have hm := hh.len
 rw [hn] at hm
 have HX := hid hh
 have HN := hid hn
 have HV := hid hv
 clear hh hn hv
 by_cases h64 : n ≤ 64
 rotate_left
 ·have hvf : v = false := by rw [← HV.out]; unfold rightV; rw [HN.out]; simp; omega
  subst hvf
  have h64' : (64 : Int) < (n : Int) := by omega
  clear HX HV HN
  go_enter Tryz.func29, Tryz.ntmps29
  go_wp2
  go_ret
  exact ⟨rfl, by exact below_auto⟩
 have h64' : ¬ (64 : Int) < (n : Int) := by omega
 go_enter Tryz.func29, Tryz.ntmps29
 go_upto_region 4 with fail
 go_loopw [10] (fun t10 wr => ∃ k : Nat, t10 = .int .i64 (k : Nat) ∧ k ≤ n ∧ Hid (∀ j : Nat, j < k → stepOk h j = true) ∧ Below w.heap.size w wr) (fun t10 _ => n - (intOf t10).toNat)
 case atStart => exact ⟨0, rfl, Nat.zero_le _, hid fun j hj => absurd hj (Nat.not_lt_zero _), Below.refl _ _⟩
 case round =>
  obtain ⟨k, rfl, hk, HR, hbw⟩ := hrel
  by_cases hlt : k < n
  ·have hkl : k < h.length := by rw [HN.out]; exact hlt
   have hlt' : (k : Int) < (n : Int) := by omega
   have hsz := hbw.size
   have hkx : Hid (h[k]? = some (h[k]?.getD default)) := hid (by rw [List.getElem?_eq_getElem hkl]; rfl)
   rcases (HX.out.below hbw).row with h0 | ⟨b, o, ha, hbl, hc⟩
   ·rw [h0] at hkl; simp at hkl
   subst ha
   have hc := hc k hkl
   have HS := hid (HX.out.sub k hkl)
   have HTK := hid (HX.out.take k)
   have htl : (h.take k).length = k := by rw [List.length_take]; omega
   have HTL := hid htl
   clear hkl htl
   obtain ⟨so, hso⟩ : ∃ so, stepOk h k = so := ⟨_, rfl⟩
   have hso' := hso
   unfold stepOk at hso'
   rw [hkx.out] at hso'
   simp only at hso'
   have HSO := hid hso
   clear hso
   generalize h[k]?.getD default = x at *
   have c0 : wr.cell? ⟨b, o + k * 7, none⟩ = some (.int .i64 x.num) := hc 0 _ rfl
   have c1 := hc 1 _ rfl
   have c2 := hc 2 _ rfl
   have c3 := hc 3 _ rfl
   have c4 := hc 4 _ rfl
   have c5 := hc 5 _ rfl
   have c6 := hc 6 _ rfl
   clear hc
   have stop : so = false → Hid (v = false) := fun hs => hid (by
    rw [← HV.out]
    unfold rightV
    rw [Bool.and_eq_false_iff]
    right
    rw [List.all_eq_false]
    exact ⟨k, List.mem_range.2 (by rw [HN.out]; exact hlt), by rw [HSO.out, hs]; decide⟩)
   have HCK := fun W (hb : Below w.heap.size w W) => K.check_any x.s W (HS.out.below hb)
   by_cases q1 : x.num = (k : Int) + 1
   rotate_left
   ·have hq : (x.num != (k : Int) + 1) = true := by simpa using q1
    have HV0 := stop (by rw [← hso']; unfold basicV; rw [decide_eq_false q1]; rfl)
    clear stop HCK hso' q1
    go_wp2_with fail
    go_ret
    exact ⟨ret_bool HV0.out.symm, by exact below_auto⟩
   by_cases q2 : K.SubV.check x.s = 0
   rotate_left
   ·have hq : (x.num != (k : Int) + 1) = false := by simpa using q1
    have hq2 : (K.SubV.check x.s != 0) = true := by simpa using q2
    have HV0 := stop (by rw [← hso']; unfold basicV; rw [decide_eq_false q2]; simp)
    clear stop hso' q2
    generalize K.SubV.check x.s = ck at *
    go_wp2_with (go_at_call 54; (with_reducible refine (HCK _ (by exact below_auto)).mono ?_); rintro e w1 ⟨rfl, hb1⟩; obtain ⟨hc1, hf1⟩ := bcell hb1; (try simp only [World.heap_drewN, World.cell?_drewN, World.frozen?_drewN] at hc1 hf1); have hz1 := hb1.size; (try simp at hz1); (try have hy1_0 : w.heap.size < w1.heap.size := by omega); (try have hy1_1 : w.heap.size + 1 < w1.heap.size := by omega); (try have hx1_0 : w.heap.size ≤ w1.heap.size := by omega); (try have hx1_1 : w.heap.size + 1 ≤ w1.heap.size := by omega))
    go_ret
    exact ⟨ret_bool HV0.out.symm, by exact below_auto⟩
   have hq : (x.num != (k : Int) + 1) = false := by simpa using q1
   rw [q2] at HCK
   by_cases q3 : x.s.s2 < x.num
   rotate_left
   ·have hq3 : x.num ≤ x.s.s2 := by omega
    have HV0 := stop (by rw [← hso']; unfold basicV; rw [decide_eq_false q3]; simp)
    clear stop hso' q1 q2 q3
    go_wp2_with (go_at_call 54; (with_reducible refine (HCK _ (by exact below_auto)).mono ?_); rintro e w1 ⟨rfl, hb1⟩; obtain ⟨hc1, hf1⟩ := bcell hb1; (try simp only [World.heap_drewN, World.cell?_drewN, World.frozen?_drewN] at hc1 hf1); have hz1 := hb1.size; (try simp at hz1); (try have hy1_0 : w.heap.size < w1.heap.size := by omega); (try have hy1_1 : w.heap.size + 1 < w1.heap.size := by omega); (try have hx1_0 : w.heap.size ≤ w1.heap.size := by omega); (try have hx1_1 : w.heap.size + 1 ≤ w1.heap.size := by omega))
    go_ret
    exact ⟨ret_bool HV0.out.symm, by exact below_auto⟩
   have hq3 : ¬ x.num ≤ x.s.s2 := by omega
   have hkc : k ≤ c := by omega
   have hb1 : basicV k x = true := by unfold basicV; simp [q1, q2]; omega
   rw [hb1, Bool.true_and] at hso'
   obtain ⟨cv, hcv⟩ : ∃ cv, ((h.take k).any fun x_1 => clashV x_1 x) = cv := ⟨_, rfl⟩
   rw [hcv] at hso'
   have HCF := fun W (hb : Below w.heap.size w W) (hB : DBox W wr.heap.size x) => slClash_any (fun y => clashV y x) (some ⟨b, o, none⟩) c wr.heap.size (h.take k) k cv W HTL.out (HTK.out.below hb) (fun W' y hb' hy _ => right1_any y x wr.heap.size W' (hy.below hb') ((HS.out.below hb).below hb') (hB.below hb')) hcv
   have HSO2 := hid (hso'.trans HSO.out.symm)
   have hso'0 : cv = true → so = false := fun h => by rw [← hso', h]; rfl
   clear hso' hcv hb1 q1 q2 q3 HSO
   cases cv
   ·clear stop
    go_wp2_with (first | (go_at_call 54; (with_reducible refine (HCK _ (by exact below_auto)).mono ?_); rintro e w1 ⟨rfl, hb1⟩; obtain ⟨hc1, hf1⟩ := bcell hb1; (try simp only [World.heap_drewN, World.cell?_drewN, World.frozen?_drewN] at hc1 hf1); have hz1 := hb1.size; (try simp at hz1); (try have hy1_0 : w.heap.size < w1.heap.size := by omega); (try have hy1_1 : w.heap.size + 1 < w1.heap.size := by omega); (try have hx1_0 : w.heap.size ≤ w1.heap.size := by omega); (try have hx1_1 : w.heap.size + 1 ≤ w1.heap.size := by omega); (try have hu1_wr_0 : wr.heap.size < w1.heap.size := by omega)) | (go_at_call 55; (with_reducible refine (HCF _ (by exact below_auto) (DBox.mk7 (by assumption) (by go_simp) (by go_simp) (by go_simp) (by go_simp) (by go_simp) (by go_simp) (by go_simp))).mono ?_); rintro e w2 ⟨rfl, hb2⟩; obtain ⟨hc2, hf2⟩ := bcell hb2; (try simp only [World.heap_drewN, World.cell?_drewN, World.frozen?_drewN] at hc2 hf2); have hz2 := hb2.size; (try simp at hz2); (try have hy2_0 : w.heap.size < w2.heap.size := by omega); (try have hy2_1 : w.heap.size + 1 < w2.heap.size := by omega); (try have hx2_0 : w.heap.size ≤ w2.heap.size := by omega); (try have hx2_1 : w.heap.size + 1 ≤ w2.heap.size := by omega)))
    go_roundw
    case rel => exact ⟨k + 1, by go_num, by omega, hid fun j hj => by
      by_cases hjk : j < k
      ·exact HR.out j hjk
      ·obtain rfl : j = k := by omega
       exact HSO2.out.symm, by clear hso'0; exact below_auto⟩
    case measure => simp [intOf]; omega
   ·have HV0 := stop (hso'0 rfl)
    go_wp2_with (first | (go_at_call 54; (with_reducible refine (HCK _ (by exact below_auto)).mono ?_); rintro e w1 ⟨rfl, hb1⟩; obtain ⟨hc1, hf1⟩ := bcell hb1; (try simp only [World.heap_drewN, World.cell?_drewN, World.frozen?_drewN] at hc1 hf1); have hz1 := hb1.size; (try simp at hz1); (try have hy1_0 : w.heap.size < w1.heap.size := by omega); (try have hy1_1 : w.heap.size + 1 < w1.heap.size := by omega); (try have hx1_0 : w.heap.size ≤ w1.heap.size := by omega); (try have hx1_1 : w.heap.size + 1 ≤ w1.heap.size := by omega); (try have hu1_wr_0 : wr.heap.size < w1.heap.size := by omega)) | (go_at_call 55; (with_reducible refine (HCF _ (by exact below_auto) (DBox.mk7 (by assumption) (by go_simp) (by go_simp) (by go_simp) (by go_simp) (by go_simp) (by go_simp) (by go_simp))).mono ?_); rintro e w2 ⟨rfl, hb2⟩; obtain ⟨hc2, hf2⟩ := bcell hb2; (try simp only [World.heap_drewN, World.cell?_drewN, World.frozen?_drewN] at hc2 hf2); have hz2 := hb2.size; (try simp at hz2); (try have hy2_0 : w.heap.size < w2.heap.size := by omega); (try have hy2_1 : w.heap.size + 1 < w2.heap.size := by omega); (try have hx2_0 : w.heap.size ≤ w2.heap.size := by omega); (try have hx2_1 : w.heap.size + 1 ≤ w2.heap.size := by omega)))
    go_ret
    exact ⟨ret_bool HV0.out.symm, by exact below_auto⟩
  ·obtain rfl : k = n := by omega
   have hge : ¬ (k : Int) < (k : Int) := by omega
   have hvt : v = true := by
    rw [← HV.out]
    unfold rightV
    rw [Bool.and_eq_true, decide_eq_true_eq, List.all_eq_true]
    exact ⟨by rw [HN.out]; exact h64, fun i hi => HR.out i (by rw [← HN.out]; exact List.mem_range.1 hi)⟩
   subst hvt
   go_wp2_with fail
   go_ret
   exact ⟨rfl, by exact below_auto⟩
end Go.Proofs.YtekmadgacepdfaaGreat.T
namespace Go.Proofs.YtekmadgacepdfaaGreat.T
set_option linter.unusedVariables false
open Go.RowKit Fl
set_option linter.unusedSimpArgs false

theorem two_boxes {w wr : World} {a b : DoneV} {T : TypeId} (h : Below (w.heap.size + 1 + 1) ((w.alloc (.cells (dEnc a).toArray T (0, 0))).alloc (.cells (dEnc b).toArray T (0, 0))) wr) : DBox wr w.heap.size a ∧ DBox wr (w.heap.size + 1) b := by
 have h2 : DBox ((w.alloc (.cells (dEnc a).toArray T (0, 0))).alloc (.cells (dEnc b).toArray T (0, 0))) (w.heap.size + 1) b := by
  have := DBox.of_alloc (w := w.alloc (.cells (dEnc a).toArray T (0, 0))) (d := b) T
  simpa using this
 have h1 : DBox ((w.alloc (.cells (dEnc a).toArray T (0, 0))).alloc (.cells (dEnc b).toArray T (0, 0))) w.heap.size a :=
  (DBox.of_alloc (w := w) (d := a) T).below (Below.alloc1 (Nat.le_refl _) (Below.refl _ _) _)
 exact ⟨h1.below (h.mono (by simp)), h2.below (h.mono (by simp))⟩
theorem leadsV_ne {a b : DoneV} (h : a.num ≠ b.num) {p1 p2 p3 : Bool} (h1 : decide (a.num < b.num) = p1) (h2 : decide (a.num ≤ b.s.s2) = p2) (h3 : decide (a.s.s2 < b.num) = p3) :
  leadsV a b = ((a.s.ws.any fun k => (p1 && b.s.writes k) || (p2 && b.s.reads k)) || (p3 && a.s.meets b.s)) := by
 unfold leadsV
 rw [if_neg h, h1, h2, h3]
set_option maxHeartbeats 1000000 in
set_option maxRecDepth 100000 in
theorem leads_any (a b : DoneV) (v : Bool) (w : World) (ha : a.s.At w) (hb : b.s.At w) (hv : leadsV a b = v) :
  Calls Tryz.prog 53 #[.agg #[.int .i64 a.num, .int .i64 a.s.s0, .int .i64 a.s.s1, .int .i64 a.s.s2, .slice a.s.ra a.s.rs.length a.s.rc, .slice a.s.sa a.s.ss.length a.s.sc, .slice a.s.wa a.s.ws.length a.s.wc], .agg #[.int .i64 b.num, .int .i64 b.s.s0, .int .i64 b.s.s1, .int .i64 b.s.s2, .slice b.s.ra b.s.rs.length b.s.rc, .slice b.s.sa b.s.ss.length b.s.sc, .slice b.s.wa b.s.ws.length b.s.wc]] w (Ret (.bool v) w) := by
 by_cases q0 : a.num = b.num
 ·have hq : (a.num == b.num) = true := by simpa using q0
  obtain rfl : false = v := by rw [← hv]; unfold leadsV; rw [if_pos q0]
  clear hv q0 ha hb
  go_enter Tryz.func53, Tryz.ntmps53
  go_wp2
  go_ret
  exact ⟨rfl, by exact below_auto⟩
 have hq : (a.num == b.num) = false := by simpa using q0
 obtain ⟨p1, hp1⟩ : ∃ p, decide (a.num < b.num) = p := ⟨_, rfl⟩
 obtain ⟨p2, hp2⟩ : ∃ p, decide (a.num ≤ b.s.s2) = p := ⟨_, rfl⟩
 obtain ⟨p3, hp3⟩ : ∃ p, decide (a.s.s2 < b.num) = p := ⟨_, rfl⟩
 rw [leadsV_ne q0 hp1 hp2 hp3] at hv
 have HV := hid hv
 obtain ⟨aw, hw0⟩ : ∃ x, x = a.s.wa := ⟨_, rfl⟩
 have HA : Hid (FAt w aw a.s.ws) := hid (by rw [hw0]; exact ha.w)
 have HAW := hid hw0
 have HW := fun W key (hw : Below w.heap.size w W) => subWrites_any b.s key W (hb.below hw)
 have HR := fun W key (hw : Below w.heap.size w W) => subReads_any b.s key W (hb.below hw)
 have HM := fun W (hw : Below w.heap.size w W) => subMeets_any a.s b.s W (ha.below hw) (hb.below hw)
 have hm := ha.w.len
 unfold maxLen at hm
 clear q0 ha hb hv
 obtain ⟨n, hn⟩ : ∃ n, n = a.s.ws.length := ⟨_, rfl⟩
 have HN := hid hn
 rw [← hn] at hm HM ⊢
 rw [← hw0] at HM ⊢
 clear hn hw0
 go_enter Tryz.func53, Tryz.ntmps53
 go_upto_region 4 with fail
 go_loopw [16] (fun t16 wr => ∃ k : Nat, t16 = .int .i64 (k : Nat) ∧ k ≤ n ∧ Hid (∀ j : Nat, j < k → ∀ y, a.s.ws[j]? = some y → ((p1 && b.s.writes y) || (p2 && b.s.reads y)) = false) ∧ Below (w.heap.size + 1 + 1) ((w.alloc (.cells (dEnc a).toArray 73 (0, 0))).alloc (.cells (dEnc b).toArray 73 (0, 0))) wr) (fun t16 _ => n - (intOf t16).toNat)
 case atStart => exact ⟨0, rfl, Nat.zero_le _, hid fun j hj => absurd hj (Nat.not_lt_zero _), by unfold dEnc; rw [← HN.out, ← HAW.out]; exact Below.refl _ _⟩
 case round =>
  obtain ⟨k, rfl, hk, HJ, hbw⟩ := hrel
  have hbw0 : Below w.heap.size w wr := ((((Below.refl _ _).alloc (Nat.le_refl _) _).alloc (by simp) _).trans (hbw.mono (by omega)))
  obtain ⟨B1, B2⟩ := two_boxes hbw
  have e0 := B1.2 0 _ rfl
  have e1 := B1.2 1 _ rfl
  have e2 := B1.2 2 _ rfl
  have e3 := B1.2 3 _ rfl
  have e4 := B1.2 4 _ rfl
  have e5 := B1.2 5 _ rfl
  have e6 := B1.2 6 _ rfl
  have f0 := B2.2 0 _ rfl
  have f1 := B2.2 1 _ rfl
  have f2 := B2.2 2 _ rfl
  have f3 := B2.2 3 _ rfl
  have f4 := B2.2 4 _ rfl
  have f5 := B2.2 5 _ rfl
  have f6 := B2.2 6 _ rfl
  have hz1 := B1.1
  have hz2 := B2.1
  rw [← HN.out, ← HAW.out] at e6
  have hsz := hbw0.size
  have HBW := hid hbw
  clear B1 B2 hbw
  by_cases hlt : k < n
  ·have hkl : k < a.s.ws.length := by rw [← HN.out]; exact hlt
   have hlt' : (k : Int) < (n : Int) := by omega
   have hkx : Hid (a.s.ws[k]? = some (a.s.ws[k]?.getD 0)) := hid (fl_some hkl)
   rcases (HA.out.below hbw0).row with h0 | ⟨g, o, hag, hbl, hc⟩
   ·rw [h0] at hkl; simp at hkl
   have hc := hc k hkl
   subst hag
   clear hkl
   generalize a.s.ws[k]?.getD 0 = x at *
   have HW1 := fun W hw => HW W x hw
   have HR1 := fun W hw => HR W x hw
   clear HW HR HM
   obtain ⟨bw, hbw'⟩ : ∃ bw, b.s.writes x = bw := ⟨_, rfl⟩
   obtain ⟨br, hbr⟩ : ∃ br, b.s.reads x = br := ⟨_, rfl⟩
   rw [hbw'] at HW1
   rw [hbr] at HR1
   have HBW' := hid hbw'
   have HBR := hid hbr
   clear hbw' hbr
   have stop : ((p1 && bw) || (p2 && br)) = true → Hid (v = true) := fun h => hid (by
    rw [← HV.out, Bool.or_eq_true]
    left
    exact List.any_eq_true.2 ⟨x, List.mem_of_getElem? hkx.out, by rw [HBW'.out, HBR.out]; exact h⟩)
   have goOn : ((p1 && bw) || (p2 && br)) = false → Hid (∀ j : Nat, j < k + 1 → ∀ y, a.s.ws[j]? = some y → ((p1 && b.s.writes y) || (p2 && b.s.reads y)) = false) := fun h => hid fun j hj y hy => by
    by_cases hjk : j < k
    ·exact HJ.out j hjk y hy
    ·obtain rfl : j = k := by omega
     rw [hkx.out] at hy
     cases hy
     rw [HBW'.out, HBR.out]; exact h
   have hcs : (p1 = true ∧ bw = true) ∨ ((p1 = false ∨ (p1 = true ∧ bw = false)) ∧ p2 = true ∧ br = true) ∨ ((p1 = false ∨ (p1 = true ∧ bw = false)) ∧ (p2 = false ∨ (p2 = true ∧ br = false))) := by
    cases p1 <;> cases p2 <;> cases bw <;> cases br <;> simp
   rcases hcs with h1 | h2 | h3
   ·obtain ⟨rfl, rfl⟩ := h1
    have HV1 := stop (by simp)
    have hp1' := of_decide_eq_true hp1
    clear stop goOn HR1
    go_wp2_with (go_at_call 65; (with_reducible refine (HW1 _ (by exact below_auto)).mono ?_); rintro e w1 ⟨rfl, hb1⟩; obtain ⟨hc1, hf1⟩ := bcell hb1; (try simp only [World.heap_drewN, World.cell?_drewN, World.frozen?_drewN] at hc1 hf1); have hz1 := hb1.size; (try simp at hz1); (try have hy1_0 : w.heap.size < w1.heap.size := by omega); (try have hy1_1 : w.heap.size + 1 < w1.heap.size := by omega); (try have hx1_0 : w.heap.size ≤ w1.heap.size := by omega); (try have hx1_1 : w.heap.size + 1 ≤ w1.heap.size := by omega))
    go_ret
    exact ⟨ret_bool HV1.out.symm, by exact below_auto⟩
   ·obtain ⟨h2, rfl, rfl⟩ := h2
    have HV1 := stop (by simp)
    have hp2' := of_decide_eq_true hp2
    clear stop goOn
    rcases h2 with rfl | ⟨rfl, rfl⟩
    ·have hp1' := of_decide_eq_false hp1
     go_wp2_with (first | (go_at_call 65; (with_reducible refine (HW1 _ (by exact below_auto)).mono ?_); rintro e w1 ⟨rfl, hb1⟩; obtain ⟨hc1, hf1⟩ := bcell hb1; (try simp only [World.heap_drewN, World.cell?_drewN, World.frozen?_drewN] at hc1 hf1); have hz1 := hb1.size; (try simp at hz1); (try have hy1_0 : w.heap.size < w1.heap.size := by omega); (try have hy1_1 : w.heap.size + 1 < w1.heap.size := by omega); (try have hx1_0 : w.heap.size ≤ w1.heap.size := by omega); (try have hx1_1 : w.heap.size + 1 ≤ w1.heap.size := by omega)) | (go_at_call 63; (with_reducible refine (HR1 _ (by exact below_auto)).mono ?_); rintro e w2 ⟨rfl, hb2⟩; obtain ⟨hc2, hf2⟩ := bcell hb2; (try simp only [World.heap_drewN, World.cell?_drewN, World.frozen?_drewN] at hc2 hf2); have hz2 := hb2.size; (try simp at hz2); (try have hy2_0 : w.heap.size < w2.heap.size := by omega); (try have hy2_1 : w.heap.size + 1 < w2.heap.size := by omega); (try have hx2_0 : w.heap.size ≤ w2.heap.size := by omega); (try have hx2_1 : w.heap.size + 1 ≤ w2.heap.size := by omega)))
     go_ret
     exact ⟨ret_bool HV1.out.symm, by exact below_auto⟩
    ·have hp1' := of_decide_eq_true hp1
     go_wp2_with (first | (go_at_call 65; (with_reducible refine (HW1 _ (by exact below_auto)).mono ?_); rintro e w1 ⟨rfl, hb1⟩; obtain ⟨hc1, hf1⟩ := bcell hb1; (try simp only [World.heap_drewN, World.cell?_drewN, World.frozen?_drewN] at hc1 hf1); have hz1 := hb1.size; (try simp at hz1); (try have hy1_0 : w.heap.size < w1.heap.size := by omega); (try have hy1_1 : w.heap.size + 1 < w1.heap.size := by omega); (try have hx1_0 : w.heap.size ≤ w1.heap.size := by omega); (try have hx1_1 : w.heap.size + 1 ≤ w1.heap.size := by omega)) | (go_at_call 63; (with_reducible refine (HR1 _ (by exact below_auto)).mono ?_); rintro e w2 ⟨rfl, hb2⟩; obtain ⟨hc2, hf2⟩ := bcell hb2; (try simp only [World.heap_drewN, World.cell?_drewN, World.frozen?_drewN] at hc2 hf2); have hz2 := hb2.size; (try simp at hz2); (try have hy2_0 : w.heap.size < w2.heap.size := by omega); (try have hy2_1 : w.heap.size + 1 < w2.heap.size := by omega); (try have hx2_0 : w.heap.size ≤ w2.heap.size := by omega); (try have hx2_1 : w.heap.size + 1 ≤ w2.heap.size := by omega)))
     go_ret
     exact ⟨ret_bool HV1.out.symm, by exact below_auto⟩
   ·obtain ⟨h2, h3⟩ := h3
    have HJ1 := goOn (by rcases h2 with rfl | ⟨rfl, rfl⟩ <;> rcases h3 with rfl | ⟨rfl, rfl⟩ <;> simp)
    clear stop goOn
    rcases h2 with rfl | ⟨rfl, rfl⟩ <;> rcases h3 with rfl | ⟨rfl, rfl⟩
    all_goals
     (try have hp1' := of_decide_eq_true hp1)
     (try have hp1' := of_decide_eq_false hp1)
     (try have hp2' := of_decide_eq_true hp2)
     (try have hp2' := of_decide_eq_false hp2)
     go_wp2_with (first | (go_at_call 65; (with_reducible refine (HW1 _ (by exact below_auto)).mono ?_); rintro e w1 ⟨rfl, hb1⟩; obtain ⟨hc1, hf1⟩ := bcell hb1; (try simp only [World.heap_drewN, World.cell?_drewN, World.frozen?_drewN] at hc1 hf1); have hz1 := hb1.size; (try simp at hz1); (try have hy1_0 : w.heap.size < w1.heap.size := by omega); (try have hy1_1 : w.heap.size + 1 < w1.heap.size := by omega); (try have hx1_0 : w.heap.size ≤ w1.heap.size := by omega); (try have hx1_1 : w.heap.size + 1 ≤ w1.heap.size := by omega)) | (go_at_call 63; (with_reducible refine (HR1 _ (by exact below_auto)).mono ?_); rintro e w2 ⟨rfl, hb2⟩; obtain ⟨hc2, hf2⟩ := bcell hb2; (try simp only [World.heap_drewN, World.cell?_drewN, World.frozen?_drewN] at hc2 hf2); have hz2 := hb2.size; (try simp at hz2); (try have hy2_0 : w.heap.size < w2.heap.size := by omega); (try have hy2_1 : w.heap.size + 1 < w2.heap.size := by omega); (try have hx2_0 : w.heap.size ≤ w2.heap.size := by omega); (try have hx2_1 : w.heap.size + 1 ≤ w2.heap.size := by omega)))
     go_roundw
     case rel => exact ⟨k + 1, by go_num, by omega, HJ1, by clear hbw0; have hbw := HBW.out; clear HBW; exact below_auto⟩
     case measure => simp [intOf]; omega
  ·obtain rfl : k = n := by omega
   have hge : ¬ (k : Int) < (k : Int) := by omega
   have hany : (a.s.ws.any fun k => (p1 && b.s.writes k) || (p2 && b.s.reads k)) = false := by
    rw [List.any_eq_false]
    intro y hy
    obtain ⟨j, hj⟩ := List.mem_iff_getElem?.1 hy
    have := (List.getElem?_eq_some_iff.1 hj).1
    rw [HJ.out j (by have := HN.out; omega) y hj]; simp
   have hv := HV.out
   rw [hany, Bool.false_or] at hv
   clear HW HR hany HV HJ hp1 hp2
   generalize a.s.meets b.s = mt at *
   cases p3
   ·obtain rfl : false = v := hv
    have hp3' := of_decide_eq_false hp3
    go_wp2_with fail
    go_ret
    exact ⟨rfl, by exact below_auto⟩
   ·obtain rfl : mt = v := by rw [← hv]; rfl
    have hp3' := of_decide_eq_true hp3
    go_wp2_with (go_at_call 92; (with_reducible refine (HM _ (by exact below_auto)).mono ?_); rintro e w1 ⟨rfl, hb1⟩; obtain ⟨hc1, hf1⟩ := bcell hb1; (try simp only [World.heap_drewN, World.cell?_drewN, World.frozen?_drewN] at hc1 hf1); have hz1 := hb1.size; (try simp at hz1); (try have hy1_0 : w.heap.size < w1.heap.size := by omega); (try have hy1_1 : w.heap.size + 1 < w1.heap.size := by omega); (try have hx1_0 : w.heap.size ≤ w1.heap.size := by omega); (try have hx1_1 : w.heap.size + 1 ≤ w1.heap.size := by omega))
    go_ret
    exact ⟨rfl, by exact below_auto⟩
set_option maxHeartbeats 1000000 in
set_option maxRecDepth 100000 in
theorem refLeads_any (a b : DoneV) (v : Bool) (w : World) (ha : a.s.At w) (hb : b.s.At w) (hv : leadsV a b = v) :
  Calls Tryz.prog 30 #[.agg #[.int .i64 a.num, .int .i64 a.s.s0, .int .i64 a.s.s1, .int .i64 a.s.s2, .slice a.s.ra a.s.rs.length a.s.rc, .slice a.s.sa a.s.ss.length a.s.sc, .slice a.s.wa a.s.ws.length a.s.wc], .agg #[.int .i64 b.num, .int .i64 b.s.s0, .int .i64 b.s.s1, .int .i64 b.s.s2, .slice b.s.ra b.s.rs.length b.s.rc, .slice b.s.sa b.s.ss.length b.s.sc, .slice b.s.wa b.s.ws.length b.s.wc]] w (Ret (.bool v) w) := by
 by_cases q0 : a.num = b.num
 ·have hq : (a.num == b.num) = true := by simpa using q0
  obtain rfl : false = v := by rw [← hv]; unfold leadsV; rw [if_pos q0]
  clear hv q0 ha hb
  go_enter Tryz.func30, Tryz.ntmps30
  go_wp2
  go_ret
  exact ⟨rfl, by exact below_auto⟩
 have hq : (a.num == b.num) = false := by simpa using q0
 obtain ⟨p1, hp1⟩ : ∃ p, decide (a.num < b.num) = p := ⟨_, rfl⟩
 obtain ⟨p2, hp2⟩ : ∃ p, decide (a.num ≤ b.s.s2) = p := ⟨_, rfl⟩
 obtain ⟨p3, hp3⟩ : ∃ p, decide (a.s.s2 < b.num) = p := ⟨_, rfl⟩
 rw [leadsV_ne q0 hp1 hp2 hp3] at hv
 have HV := hid hv
 have HA := hid ha.w
 have HB := hid hb.w
 have HW := fun W key (hw : Below w.heap.size w W) => refWrites_any b.s key W (hb.below hw)
 have HR := fun W key (hw : Below w.heap.size w W) hk => refReads_any b.s key W (hb.below hw) hk
 have HRA := fun W key (hw : Below w.heap.size w W) hk => refReads_any a.s key W (ha.below hw) hk
 have hm := ha.w.len
 have hm2 := hb.w.len
 unfold maxLen at hm hm2
 clear q0 ha hb hv
 obtain ⟨n, hn⟩ : ∃ n, n = a.s.ws.length := ⟨_, rfl⟩
 have HN := hid hn
 rw [← hn] at hm HRA ⊢
 clear hn
 obtain ⟨n2, hn2⟩ : ∃ n, n = b.s.ws.length := ⟨_, rfl⟩
 have HN2 := hid hn2
 rw [← hn2] at hm2 HR HW ⊢
 clear hn2
 have cells : ∀ wr, Below (w.heap.size + 1 + 1) ((w.alloc (.cells (dEnc a).toArray 73 (0, 0))).alloc (.cells (dEnc b).toArray 73 (0, 0))) wr → Below w.heap.size w wr := fun wr hbw => ((((Below.refl _ _).alloc (Nat.le_refl _) _).alloc (by simp) _).trans (hbw.mono (by omega)))
 have CELLS := hid cells
 clear cells
 go_enter Tryz.func30, Tryz.ntmps30
 go_upto_region 4 with fail
 go_loopw [5] (fun t5 wr => ∃ k : Nat, t5 = .int .i64 (k : Nat) ∧ k ≤ n ∧ Hid (∀ j : Nat, j < k → ∀ y, a.s.ws[j]? = some y → ((p1 && b.s.writes y) || (p2 && b.s.reads y)) = false) ∧ Below (w.heap.size + 1 + 1) ((w.alloc (.cells (dEnc a).toArray 73 (0, 0))).alloc (.cells (dEnc b).toArray 73 (0, 0))) wr) (fun t5 _ => n - (intOf t5).toNat)
 case atStart => exact ⟨0, rfl, Nat.zero_le _, hid fun j hj => absurd hj (Nat.not_lt_zero _), by unfold dEnc; rw [← HN.out, ← HN2.out]; exact Below.refl _ _⟩
 case round =>
  obtain ⟨k, rfl, hk, HJ, hbw⟩ := hrel
  have hbw0 := CELLS.out _ hbw
  obtain ⟨B1, B2⟩ := two_boxes hbw
  have e0 := B1.2 0 _ rfl
  have e1 := B1.2 1 _ rfl
  have e2 := B1.2 2 _ rfl
  have e3 := B1.2 3 _ rfl
  have e4 := B1.2 4 _ rfl
  have e5 := B1.2 5 _ rfl
  have e6 := B1.2 6 _ rfl
  have f0 := B2.2 0 _ rfl
  have f1 := B2.2 1 _ rfl
  have f2 := B2.2 2 _ rfl
  have f3 := B2.2 3 _ rfl
  have f4 := B2.2 4 _ rfl
  have f5 := B2.2 5 _ rfl
  have f6 := B2.2 6 _ rfl
  have hz1 := B1.1
  have hz2 := B2.1
  rw [← HN.out] at e6
  rw [← HN2.out] at f6
  have hsz := hbw0.size
  have HBW := hid hbw
  clear B1 B2 hbw
  by_cases hlt : k < n
  ·have hkl : k < a.s.ws.length := by rw [← HN.out]; exact hlt
   have hlt' : (k : Int) < (n : Int) := by omega
   have hkx : Hid (a.s.ws[k]? = some (a.s.ws[k]?.getD 0)) := hid (fl_some hkl)
   have hx64 := HA.out.lt k hkl
   rcases (HA.out.below hbw0).row with h0 | ⟨g, o, hag, hbl, hc⟩
   ·rw [h0] at hkl; simp at hkl
   have hc := hc k hkl
   rw [hag] at e6
   clear hkl hag
   generalize a.s.ws[k]?.getD 0 = x at *
   have HW1 := fun W hw => HW W x hw
   have HR1 := fun W hw => HR W x hw hx64
   clear HW HR HRA
   obtain ⟨bw, hbw'⟩ : ∃ bw, b.s.writes x = bw := ⟨_, rfl⟩
   obtain ⟨br, hbr⟩ : ∃ br, b.s.reads x = br := ⟨_, rfl⟩
   rw [hbw'] at HW1
   rw [hbr] at HR1
   have HBW' := hid hbw'
   have HBR := hid hbr
   clear hbw' hbr
   have stop : ((p1 && bw) || (p2 && br)) = true → Hid (v = true) := fun h => hid (by
    rw [← HV.out, Bool.or_eq_true]
    left
    exact List.any_eq_true.2 ⟨x, List.mem_of_getElem? hkx.out, by rw [HBW'.out, HBR.out]; exact h⟩)
   have goOn : ((p1 && bw) || (p2 && br)) = false → Hid (∀ j : Nat, j < k + 1 → ∀ y, a.s.ws[j]? = some y → ((p1 && b.s.writes y) || (p2 && b.s.reads y)) = false) := fun h => hid fun j hj y hy => by
    by_cases hjk : j < k
    ·exact HJ.out j hjk y hy
    ·obtain rfl : j = k := by omega
     rw [hkx.out] at hy
     cases hy
     rw [HBW'.out, HBR.out]; exact h
   have hcs : (bw = true ∧ p1 = true) ∨ ((bw = false ∨ (bw = true ∧ p1 = false)) ∧ br = true ∧ p2 = true) ∨ ((bw = false ∨ (bw = true ∧ p1 = false)) ∧ (br = false ∨ (br = true ∧ p2 = false))) := by
    cases p1 <;> cases p2 <;> cases bw <;> cases br <;> simp
   rcases hcs with h1 | h2 | h3
   ·obtain ⟨rfl, rfl⟩ := h1
    have HV1 := stop (by simp)
    have hp1' := of_decide_eq_true hp1
    clear stop goOn HR1
    go_wp2_with (go_at_call 38; (with_reducible refine (HW1 _ (by exact below_auto)).mono ?_); rintro e w1 ⟨rfl, hb1⟩; obtain ⟨hc1, hf1⟩ := bcell hb1; (try simp only [World.heap_drewN, World.cell?_drewN, World.frozen?_drewN] at hc1 hf1); have hz1 := hb1.size; (try simp at hz1); (try have hy1_0 : w.heap.size < w1.heap.size := by omega); (try have hy1_1 : w.heap.size + 1 < w1.heap.size := by omega); (try have hx1_0 : w.heap.size ≤ w1.heap.size := by omega); (try have hx1_1 : w.heap.size + 1 ≤ w1.heap.size := by omega))
    go_ret
    exact ⟨ret_bool HV1.out.symm, by exact below_auto⟩
   ·obtain ⟨h2, rfl, rfl⟩ := h2
    have HV1 := stop (by simp)
    have hp2' := of_decide_eq_true hp2
    clear stop goOn
    rcases h2 with rfl | ⟨rfl, rfl⟩
    all_goals
     (try have hp1' := of_decide_eq_false hp1)
     go_wp2_with (first | (go_at_call 38; (with_reducible refine (HW1 _ (by exact below_auto)).mono ?_); rintro e w1 ⟨rfl, hb1⟩; obtain ⟨hc1, hf1⟩ := bcell hb1; (try simp only [World.heap_drewN, World.cell?_drewN, World.frozen?_drewN] at hc1 hf1); have hz1 := hb1.size; (try simp at hz1); (try have hy1_0 : w.heap.size < w1.heap.size := by omega); (try have hy1_1 : w.heap.size + 1 < w1.heap.size := by omega); (try have hx1_0 : w.heap.size ≤ w1.heap.size := by omega); (try have hx1_1 : w.heap.size + 1 ≤ w1.heap.size := by omega)) | (go_at_call 58; (with_reducible refine (HR1 _ (by exact below_auto)).mono ?_); rintro e w2 ⟨rfl, hb2⟩; obtain ⟨hc2, hf2⟩ := bcell hb2; (try simp only [World.heap_drewN, World.cell?_drewN, World.frozen?_drewN] at hc2 hf2); have hz2 := hb2.size; (try simp at hz2); (try have hy2_0 : w.heap.size < w2.heap.size := by omega); (try have hy2_1 : w.heap.size + 1 < w2.heap.size := by omega); (try have hx2_0 : w.heap.size ≤ w2.heap.size := by omega); (try have hx2_1 : w.heap.size + 1 ≤ w2.heap.size := by omega)))
     go_ret
     exact ⟨ret_bool HV1.out.symm, by exact below_auto⟩
   ·obtain ⟨h2, h3⟩ := h3
    have HJ1 := goOn (by rcases h2 with rfl | ⟨rfl, rfl⟩ <;> rcases h3 with rfl | ⟨rfl, rfl⟩ <;> simp)
    clear stop goOn
    rcases h2 with rfl | ⟨rfl, rfl⟩ <;> rcases h3 with rfl | ⟨rfl, rfl⟩
    all_goals
     (try have hp1' := of_decide_eq_false hp1)
     (try have hp2' := of_decide_eq_false hp2)
     go_wp2_with (first | (go_at_call 38; (with_reducible refine (HW1 _ (by exact below_auto)).mono ?_); rintro e w1 ⟨rfl, hb1⟩; obtain ⟨hc1, hf1⟩ := bcell hb1; (try simp only [World.heap_drewN, World.cell?_drewN, World.frozen?_drewN] at hc1 hf1); have hz1 := hb1.size; (try simp at hz1); (try have hy1_0 : w.heap.size < w1.heap.size := by omega); (try have hy1_1 : w.heap.size + 1 < w1.heap.size := by omega); (try have hx1_0 : w.heap.size ≤ w1.heap.size := by omega); (try have hx1_1 : w.heap.size + 1 ≤ w1.heap.size := by omega)) | (go_at_call 58; (with_reducible refine (HR1 _ (by exact below_auto)).mono ?_); rintro e w2 ⟨rfl, hb2⟩; obtain ⟨hc2, hf2⟩ := bcell hb2; (try simp only [World.heap_drewN, World.cell?_drewN, World.frozen?_drewN] at hc2 hf2); have hz2 := hb2.size; (try simp at hz2); (try have hy2_0 : w.heap.size < w2.heap.size := by omega); (try have hy2_1 : w.heap.size + 1 < w2.heap.size := by omega); (try have hx2_0 : w.heap.size ≤ w2.heap.size := by omega); (try have hx2_1 : w.heap.size + 1 ≤ w2.heap.size := by omega)))
     go_roundw
     case rel => exact ⟨k + 1, by go_num, by omega, HJ1, by clear hbw0; have hbw := HBW.out; clear HBW; exact below_auto⟩
     case measure => simp [intOf]; omega
  ·obtain rfl : k = n := by omega
   have hge : ¬ (k : Int) < (k : Int) := by omega
   have hany : (a.s.ws.any fun k => (p1 && b.s.writes k) || (p2 && b.s.reads k)) = false := by
    rw [List.any_eq_false]
    intro y hy
    obtain ⟨j, hj⟩ := List.mem_iff_getElem?.1 hy
    have := (List.getElem?_eq_some_iff.1 hj).1
    rw [HJ.out j (by have := HN.out; omega) y hj]; simp
   have hv := HV.out
   rw [hany, Bool.false_or] at hv
   have HV := hid hv
   clear HW HR hany HJ hp1 hp2 hv
   go_upto_region 12 with fail
   clear e0 e1 e2 e3 e4 e5 e6 f0 f1 f2 f3 f4 f5 f6
   go_loopw [7] (fun t7 wx => ∃ i : Nat, t7 = .int .i64 (i : Nat) ∧ i ≤ n2 ∧ Hid (∀ j : Nat, j < i → ∀ y, b.s.ws[j]? = some y → (p3 && a.s.reads y) = false) ∧ Below (w.heap.size + 1 + 1) ((w.alloc (.cells (dEnc a).toArray 73 (0, 0))).alloc (.cells (dEnc b).toArray 73 (0, 0))) wx) (fun t7 _ => n2 - (intOf t7).toNat)
   case atStart => exact ⟨0, rfl, Nat.zero_le _, hid fun j hj => absurd hj (Nat.not_lt_zero _), HBW.out⟩
   case round =>
    obtain ⟨i, rfl, hi, HI, hbx⟩ := hrel
    clear HBW hbw0 hz1 hz2 hsz
    have hbx0 := CELLS.out _ hbx
    obtain ⟨B1, B2⟩ := two_boxes hbx
    have e0 := B1.2 0 _ rfl
    have e1 := B1.2 1 _ rfl
    have e2 := B1.2 2 _ rfl
    have e3 := B1.2 3 _ rfl
    have e4 := B1.2 4 _ rfl
    have e5 := B1.2 5 _ rfl
    have e6 := B1.2 6 _ rfl
    have f0 := B2.2 0 _ rfl
    have f1 := B2.2 1 _ rfl
    have f2 := B2.2 2 _ rfl
    have f3 := B2.2 3 _ rfl
    have f4 := B2.2 4 _ rfl
    have f5 := B2.2 5 _ rfl
    have f6 := B2.2 6 _ rfl
    have hz1 := B1.1
    have hz2 := B2.1
    rw [← HN.out] at e6
    rw [← HN2.out] at f6
    have hsz := hbx0.size
    have HBX := hid hbx
    clear B1 B2 hbx
    by_cases hil : i < n2
    ·have hkl : i < b.s.ws.length := by rw [← HN2.out]; exact hil
     have hlt' : (i : Int) < (n2 : Int) := by omega
     have hkx : Hid (b.s.ws[i]? = some (b.s.ws[i]?.getD 0)) := hid (fl_some hkl)
     have hx64 := HB.out.lt i hkl
     rcases (HB.out.below hbx0).row with h0 | ⟨g, o, hag, hbl, hc⟩
     ·rw [h0] at hkl; simp at hkl
     have hc := hc i hkl
     rw [hag] at f6
     clear hkl hag
     generalize b.s.ws[i]?.getD 0 = x at *
     have HR1 := fun W (hw : Below wr.heap.size wr W) => HRA W x (hbx0.trans (hw.mono hsz)) hx64
     clear HRA
     obtain ⟨br, hbr⟩ : ∃ br, a.s.reads x = br := ⟨_, rfl⟩
     rw [hbr] at HR1
     have HBR := hid hbr
     clear hbr
     have stop : (p3 && br) = true → Hid (v = true) := fun h => hid (by
      rw [← HV.out, Bool.and_eq_true]
      rw [Bool.and_eq_true] at h
      exact ⟨h.1, List.any_eq_true.2 ⟨x, List.mem_of_getElem? hkx.out, by rw [HBR.out]; exact h.2⟩⟩)
     have goOn : (p3 && br) = false → Hid (∀ j : Nat, j < i + 1 → ∀ y, b.s.ws[j]? = some y → (p3 && a.s.reads y) = false) := fun h => hid fun j hj y hy => by
      by_cases hjk : j < i
      ·exact HI.out j hjk y hy
      ·obtain rfl : j = i := by omega
       rw [hkx.out] at hy
       cases hy
       rw [HBR.out]; exact h
     cases br
     ·have HJ1 := goOn (by simp)
      clear stop goOn
      go_upto_region 14 with fail
      (refine wp_region_ext (by kernel_rfl) (by kernel_rfl) ?_; (repeat (go_big_quiet_step (first | (go_at_call 58; with_reducible exact Calls.ext_of (HR1 _ (Ext.b _)))))); refine wpQuiet_nil ?_; rintro w1 ⟨x1, hx1⟩; have hb1 := x1.b; rw [← hx1] at hb1; clear hx1 x1; obtain ⟨hc1, hf1⟩ := bcell hb1; (try simp only [World.heap_drewN, World.cell?_drewN, World.frozen?_drewN] at hc1 hf1); have hz1 := hb1.size; (try simp at hz1); (try have hy1_0 : w.heap.size < w1.heap.size := by omega); (try have hy1_1 : w.heap.size + 1 < w1.heap.size := by omega); (try have hx1_0 : w.heap.size ≤ w1.heap.size := by omega); (try have hx1_1 : w.heap.size + 1 ≤ w1.heap.size := by omega))
      go_wp2_with fail
      go_roundw
      case rel => exact ⟨i + 1, by go_num, by omega, HJ1, by clear hbx0; have hbx := HBX.out; clear HBX; exact below_auto⟩
      case measure => simp [intOf]; omega
     ·cases p3
      ·have HJ1 := goOn (by simp)
       have hp3' := of_decide_eq_false hp3
       clear stop goOn
       go_upto_region 14 with fail
       (refine wp_region_ext (by kernel_rfl) (by kernel_rfl) ?_; (repeat (go_big_quiet_step (first | (go_at_call 58; with_reducible exact Calls.ext_of (HR1 _ (Ext.b _)))))); refine wpQuiet_nil ?_; rintro w1 ⟨x1, hx1⟩; have hb1 := x1.b; rw [← hx1] at hb1; clear hx1 x1; obtain ⟨hc1, hf1⟩ := bcell hb1; (try simp only [World.heap_drewN, World.cell?_drewN, World.frozen?_drewN] at hc1 hf1); have hz1 := hb1.size; (try simp at hz1); (try have hy1_0 : w.heap.size < w1.heap.size := by omega); (try have hy1_1 : w.heap.size + 1 < w1.heap.size := by omega); (try have hx1_0 : w.heap.size ≤ w1.heap.size := by omega); (try have hx1_1 : w.heap.size + 1 ≤ w1.heap.size := by omega))
       go_wp2_with fail
       go_roundw
       case rel => exact ⟨i + 1, by go_num, by omega, HJ1, by clear hbx0; have hbx := HBX.out; clear HBX; exact below_auto⟩
       case measure => simp [intOf]; omega
      ·have HV1 := stop (by simp)
       have hp3' := of_decide_eq_true hp3
       clear stop goOn
       go_upto_region 14 with fail
       (refine wp_region_ext (by kernel_rfl) (by kernel_rfl) ?_; (repeat (go_big_quiet_step (first | (go_at_call 58; with_reducible exact Calls.ext_of (HR1 _ (Ext.b _)))))); refine wpQuiet_nil ?_; rintro w1 ⟨x1, hx1⟩; have hb1 := x1.b; rw [← hx1] at hb1; clear hx1 x1; obtain ⟨hc1, hf1⟩ := bcell hb1; (try simp only [World.heap_drewN, World.cell?_drewN, World.frozen?_drewN] at hc1 hf1); have hz1 := hb1.size; (try simp at hz1); (try have hy1_0 : w.heap.size < w1.heap.size := by omega); (try have hy1_1 : w.heap.size + 1 < w1.heap.size := by omega); (try have hx1_0 : w.heap.size ≤ w1.heap.size := by omega); (try have hx1_1 : w.heap.size + 1 ≤ w1.heap.size := by omega))
       go_wp2_with fail
       go_ret
       exact ⟨ret_bool HV1.out.symm, by exact below_auto⟩
    ·obtain rfl : i = n2 := by omega
     have hge2 : ¬ (i : Int) < (i : Int) := by omega
     have hany : (p3 && a.s.meets b.s) = false := by
      cases p3
      ·rfl
      ·rw [Bool.true_and]
       unfold SubV.meets
       rw [List.any_eq_false]
       intro y hy
       obtain ⟨j, hj⟩ := List.mem_iff_getElem?.1 hy
       have := (List.getElem?_eq_some_iff.1 hj).1
       have h1 := HI.out j (by have := HN2.out; omega) y hj
       rw [Bool.true_and] at h1
       rw [h1]; simp
     obtain rfl : false = v := by rw [← HV.out, hany]
     go_wp2_with fail
     go_ret
     exact ⟨rfl, by exact below_auto⟩
end Go.Proofs.YtekmadgacepdfaaGreat.T
namespace Go.Proofs.YtekmadgacepdfaaGreat.T
set_option linter.unusedVariables false
open Go.RowKit Fl
set_option linter.unusedSimpArgs false

def eEnc (p : Int × Int) : List Value := [.int .i64 p.1, .int .i64 p.2]
def eCells (l : List (Int × Int)) : List Value := l.flatMap eEnc
theorem eCells_one (l : List (Int × Int)) : ∀ u ∈ eCells l, u.oneCell' = true := by
 intro u hu
 obtain ⟨r, _, hr⟩ := List.mem_flatMap.1 hu
 simp only [eEnc, List.mem_cons, List.not_mem_nil, or_false] at hr
 rcases hr with rfl | rfl <;> rfl
theorem edgeInfo : (Tryz.prog.info? 76).map (fun i => (i.zero, i.size, i.bytes)) = some (some (.agg #[.int .i64 0, .int .i64 0]), 2, 16) := by kernel_rfl
theorem own_sliceE {w : World} {B n : Nat} {v : Value} {cs : List Value} (h : w.ownsRow B 76 2 v n cs) : ∃ va vc, v = .slice va n vc := by
 rcases h.2 with ⟨rfl, h0⟩ | ⟨g, cap, cur, rfl, _⟩
 ·have h1 := h.1
  rw [h0] at h1
  exact ⟨none, 0, by rw [show n = 0 by simp at h1; omega]⟩
 ·exact ⟨_, _, rfl⟩
/-- An edge is added. -/
theorem appE {w : World} {base n : Nat} {a : Option Addr} {c : Nat} {xs : List (Int × Int)} (y : Int × Int) (hn : xs.length = n) (hown : w.ownsRow base 76 2 (.slice a n c) n (eCells xs)) (hbase : base ≤ w.heap.size) (hl : n ≤ 100000) :
  ∃ a' c' w', (∀ ty, (Builtin.append_ #[70, 70] ty #[.slice a n c, .slice (some ⟨w.heap.size, 0, none⟩) 1 1]).run Tryz.prog (w.alloc (.cells #[.int .i64 y.1, .int .i64 y.2] 76)) = .ok (.slice a' (n + 1) c') w') ∧
   w'.ownsRow base 76 2 (.slice a' (n + 1) c') (n + 1) (eCells (xs ++ [y])) ∧ Below base w w' ∧ w.grownBy w' (Value.slice a n c).ownBlock := by
 obtain ⟨i0, hi0, hz0, hzs, hzb⟩ := info_parts edgeInfo
 have hb1 : Below w.heap.size w (w.alloc (.cells #[.int .i64 y.1, .int .i64 y.2] 76)) := by (repeat (first | with_reducible exact Below.refl _ _ | ((with_reducible refine Below.alloc1 ?_ ?_ _); (· first | omega | (simp; done) | (simp; omega))) | (with_reducible refine Below.drew ?_) | (with_reducible refine below_drewN' ?_ _) | ((with_reducible refine Below.setCell1 ?_ ?_ _); (· first | omega | (simp; done) | (simp; omega))) | ((with_reducible refine Below.after (by assumption) ?_ ?_); (· first | omega | (simp; done) | (simp; omega)))))
 have hown1 := hown.kept (K.grown_of_below hb1) (by cases (Value.slice a n c).ownBlock <;> simp)
 obtain ⟨v', w', hr, h2, h3⟩ := run_append_own2 (P := Tryz.prog) (w.alloc (.cells #[.int .i64 y.1, .int .i64 y.2] 76)) base 70 76 i0 _ 2 16 Tryz.underlying70 hi0 hz0 hzs hzb rfl (by omega) _ _ _ hown1 ⟨w.heap.size, 0, none⟩ 1 1 (eEnc y) rfl
  (fun j u hj => by
   have hrow : (w.alloc (.cells #[.int .i64 y.1, .int .i64 y.2] 76)).heap[w.heap.size]? = some (.cells #[.int .i64 y.1, .int .i64 y.2] 76 (0, 0)) := heap_alloc_new w _
   rw [K.addr0, cell_of_row _ _ j _ _ (0, 0) hrow]
   rw [← hj]; simp [eEnc]) (fun u hu => eCells_one [y] u (by unfold eCells; simpa using hu)) (by omega) (by unfold maxLen; omega) (by omega) (by simp; omega)
 have hc : eCells xs ++ eEnc y = eCells (xs ++ [y]) := by simp [eCells]
 rw [hc] at h2
 obtain ⟨a', c', rfl⟩ := own_sliceE h2
 exact ⟨a', c', w', hr, h2, (hb1.mono hbase).grown h3.1 (by simp; omega) (fun k hk => (hown.lt k hk).1), (World.grownBy_alloc w _ _).trans h3.1⟩
theorem own_blkT {w : World} {B K n g : Nat} {e : TypeId} {v : Value} {cs : List Value} (h : w.ownsRow B e K v n cs) (hg : v.ownBlock = some g) : ∃ cur, w.heap[g]? = some (.cells cur e (0, 0)) := by
 rcases h.2 with ⟨h1, _⟩ | ⟨g', cap, cur, h1, _, hb, _⟩
 ·rw [h1] at hg; cases hg
 ·rw [h1] at hg; cases hg; exact ⟨cur, hb⟩
/-- A transaction's box, whole. -/
def DBoxH (w : World) (p : Nat) (d : DoneV) : Prop := w.heap[p]? = some (.cells (dEnc d).toArray 73 (0, 0))
theorem DBoxH.box {w : World} {p : Nat} {d : DoneV} (h : DBoxH w p d) : DBox w p d := by
 refine ⟨(Array.getElem?_eq_some_iff.1 h).1, fun t v hv => ?_⟩
 rw [cell_of_row w p t _ _ (0, 0) h]
 simpa using hv
theorem DBoxH.below {w w' : World} {p : Nat} {d : DoneV} (h : DBoxH w p d) (hb : Below w.heap.size w w') : DBoxH w' p d := (hb.block p (Array.getElem?_eq_some_iff.1 h).1).trans h
theorem DBoxH.grown {w w' : World} {p B K n : Nat} {d : DoneV} {e : TypeId} {v : Value} {cs : List Value} (h : DBoxH w p d) (hr : w.ownsRow B e K v n cs) (he : e ≠ 73) (hg : w.grownBy w' v.ownBlock) : DBoxH w' p d :=
 (hg.block p (Array.getElem?_eq_some_iff.1 h).1 fun hq => by
  obtain ⟨cur, hb⟩ := own_blkT hr hq.symm
  rw [DBoxH, hb] at h
  simp only [Option.some.injEq, Obj.cells.injEq] at h
  exact he h.2.1).trans h
def EdgesRet (l : List (Int × Int)) (w : World) (e : Ending) (w' : World) : Prop := ∃ a c, e = .returned (.slice a l.length c) ∧ w'.ownsRow w.heap.size 76 2 (.slice a l.length c) l.length (eCells l) ∧ Below w.heap.size w w'
def rowE (h : List DoneV) (a : DoneV) (j : Nat) : List (Int × Int) := ((h.take j).filter fun b => leadsV a b).map fun b => (a.num, b.num)
def outE (h : List DoneV) (i : Nat) : List (Int × Int) := (h.take i).flatMap fun a => (h.filter fun b => leadsV a b).map fun b => (a.num, b.num)
theorem outE_len (h : List DoneV) : ∀ i, (outE h i).length ≤ i * h.length
 | 0 => by simp [outE]
 | i + 1 => by
  have ih := outE_len h i
  unfold outE at ih ⊢
  rw [List.take_add_one, List.flatMap_append, List.length_append, Nat.add_mul, Nat.one_mul]
  cases hi : h[i]? with
  | none => simp at ih ⊢; omega
  | some d =>
   simp only [Option.toList_some, List.flatMap_cons, List.flatMap_nil, List.append_nil, List.length_map]
   have := List.length_filter_le (fun b => leadsV d b) h
   omega
theorem rowE_len (h : List DoneV) (a : DoneV) (j : Nat) : (rowE h a j).length ≤ j := by
 unfold rowE
 rw [List.length_map]
 exact Nat.le_trans (List.length_filter_le _ _) (by rw [List.length_take]; omega)
theorem rowE_snoc (h : List DoneV) (a b : DoneV) {j : Nat} (hj : h[j]? = some b) : rowE h a (j + 1) = rowE h a j ++ (if leadsV a b then [(a.num, b.num)] else []) := by
 unfold rowE
 rw [List.take_add_one, hj, List.filter_append, List.map_append]
 congr 1
 simp only [Option.toList_some, List.filter_cons, List.filter_nil]
 cases leadsV a b <;> rfl
theorem outE_snoc (h : List DoneV) (a : DoneV) {i : Nat} (hi : h[i]? = some a) : outE h (i + 1) = outE h i ++ rowE h a h.length := by
 unfold outE rowE
 rw [List.take_add_one, hi, List.flatMap_append, List.take_length]
 simp
set_option maxHeartbeats 2000000 in
set_option maxRecDepth 100000 in
theorem edges_any (a : Option Addr) (c n : Nat) (h : List DoneV) (w : World) (hn : h.length = n) (hcap : n ≤ c) (hh : HAt w a h) :
  Calls Tryz.prog 28 #[.slice a n c] w (EdgesRet (edgesV h) w) := by
 have HX := hid hh
 have HN := hid hn
 have HRT := hid (right_any a c n h _ w hn hcap hh rfl)
 by_cases hr : rightV h = true
 rotate_left
 ·have hrf : rightV h = false := by simpa using hr
  have hed : edgesV h = [] := by unfold edgesV; rw [hrf]; rfl
  rw [hed]
  have HRT := HRT.out
  rw [hrf] at HRT
  clear hr hed hrf hh hn HX HN
  go_enter Tryz.func28, Tryz.ntmps28
  go_wp2_with (go_at_call 29; (with_reducible refine (HRT).mono ?_); rintro e w1 ⟨rfl, hb1⟩; obtain ⟨hc1, hf1⟩ := bcell hb1; (try simp only [World.heap_drewN, World.cell?_drewN, World.frozen?_drewN] at hc1 hf1); have hz1 := hb1.size; (try simp at hz1); (try have hy1_0 : w.heap.size < w1.heap.size := by omega); (try have hy1_1 : w.heap.size + 1 < w1.heap.size := by omega); (try have hx1_0 : w.heap.size ≤ w1.heap.size := by omega); (try have hx1_1 : w.heap.size + 1 ≤ w1.heap.size := by omega))
  go_ret
  exact ⟨none, 0, rfl, World.ownsRow_nil _ _ _ _, by (repeat (first | with_reducible exact Below.refl _ _ | ((with_reducible refine Below.alloc1 ?_ ?_ _); (· first | omega | (simp; done) | (simp; omega))) | (with_reducible refine Below.drew ?_) | (with_reducible refine below_drewN' ?_ _) | ((with_reducible refine Below.setCell1 ?_ ?_ _); (· first | omega | (simp; done) | (simp; omega))) | ((with_reducible refine Below.after (by assumption) ?_ ?_); (· first | omega | (simp; done) | (simp; omega)))))⟩
 have hm := right_len hr
 rw [hn] at hm
 have hfin : edgesV h = outE h n := by unfold edgesV outE; rw [if_pos hr, ← hn, List.take_length]
 have HFIN := hid hfin
 have HRT := HRT.out
 rw [hr] at HRT
 clear hh hn hr hfin
 go_enter Tryz.func28, Tryz.ntmps28
 go_upto_region 5 with (go_at_call 29; (with_reducible refine (HRT).mono ?_); rintro e w1 ⟨rfl, hb1⟩; obtain ⟨hc1, hf1⟩ := bcell hb1; (try simp only [World.heap_drewN, World.cell?_drewN, World.frozen?_drewN] at hc1 hf1); have hz1 := hb1.size; (try simp at hz1); (try have hy1_0 : w.heap.size < w1.heap.size := by omega); (try have hy1_1 : w.heap.size + 1 < w1.heap.size := by omega); (try have hx1_0 : w.heap.size ≤ w1.heap.size := by omega); (try have hx1_1 : w.heap.size + 1 ≤ w1.heap.size := by omega))
 clear HRT
 go_loopw [3, 14] (fun t3 t14 wr => ∃ (i : Nat) (ao : Option Addr) (co L : Nat), t14 = .int .i64 (i : Nat) ∧ t3 = .slice ao L co ∧ i ≤ n ∧ Hid (L = (outE h i).length) ∧ Hid (wr.ownsRow w.heap.size 76 2 (.slice ao L co) L (eCells (outE h i))) ∧ Below w.heap.size w wr) (fun _ t14 _ => n - (intOf t14).toNat)
 case atStart => exact ⟨0, none, 0, 0, rfl, rfl, Nat.zero_le _, hid rfl, hid (World.ownsRow_nil _ _ _ _), by (repeat (first | with_reducible exact Below.refl _ _ | ((with_reducible refine Below.alloc1 ?_ ?_ _); (· first | omega | (simp; done) | (simp; omega))) | (with_reducible refine Below.drew ?_) | (with_reducible refine below_drewN' ?_ _) | ((with_reducible refine Below.setCell1 ?_ ?_ _); (· first | omega | (simp; done) | (simp; omega))) | ((with_reducible refine Below.after (by assumption) ?_ ?_); (· first | omega | (simp; done) | (simp; omega)))))⟩
 case round =>
  obtain ⟨i, ao, co, L, rfl, rfl, hi, HL, HOW, hbw⟩ := hrel
  by_cases hlt : i < n
  ·have hkl : i < h.length := by rw [HN.out]; exact hlt
   have hlt' : (i : Int) < (n : Int) := by omega
   have hkx : Hid (h[i]? = some (h[i]?.getD default)) := hid (by rw [List.getElem?_eq_getElem hkl]; rfl)
   rcases (HX.out.below hbw).row with h0 | ⟨b, o, ha, hbl, hc⟩
   ·rw [h0] at hkl; simp at hkl
   subst ha
   have hc := hc i hkl
   have HS := hid (HX.out.sub i hkl)
   have hLb : L ≤ 4096 := by
    have h1 := outE_len h i
    rw [← HL.out, HN.out] at h1
    exact Nat.le_trans h1 (Nat.mul_le_mul (by omega : i ≤ 64) (by omega : n ≤ 64))
   clear hkl
   generalize h[i]?.getD default = x at *
   have c0 : wr.cell? ⟨b, o + i * 7, none⟩ = some (.int .i64 x.num) := hc 0 _ rfl
   have c1 := hc 1 _ rfl
   have c2 := hc 2 _ rfl
   have c3 := hc 3 _ rfl
   have c4 := hc 4 _ rfl
   have c5 := hc 5 _ rfl
   have c6 := hc 6 _ rfl
   clear hc hc1 hf1
   have hbz : Below wr.heap.size wr (wr.alloc (.cells (dEnc x).toArray 73 (0, 0))) := Below.alloc1 (Nat.le_refl _) (Below.refl _ _) _
   have hX5 : DBoxH (wr.alloc (.cells (dEnc x).toArray 73 (0, 0))) wr.heap.size x := heap_alloc_new _ _
   have HR5 := hid (HOW.out.kept (K.grown_of_below hbz) (by cases (Value.slice ao L co).ownBlock <;> simp))
   have hb5 := hbw.trans (hbz.mono hbw.size)
   have HX5 := hid hX5
   have hz5 : wr.heap.size < (wr.alloc (.cells (dEnc x).toArray 73 (0, 0))).heap.size := by simp
   have hpw := hbw.size
   go_upto_region 8 with fail
   have hW5 : wr.alloc (.cells (dEnc x).toArray 73 (0, 0)) = wr.alloc (.cells #[.int .i64 x.num, .int .i64 x.s.s0, .int .i64 x.s.s1, .int .i64 x.s.s2, .slice x.s.ra x.s.rs.length x.s.rc, .slice x.s.sa x.s.ss.length x.s.sc, .slice x.s.wa x.s.ws.length x.s.wc] 73) := rfl
   rw [hW5] at hbz HR5 hb5 HX5 hz5
   clear hW5 hX5 hbz c0 c1 c2 c3 c4 c5 c6 HOW
   generalize wr.alloc (.cells #[.int .i64 x.num, .int .i64 x.s.s0, .int .i64 x.s.s1, .int .i64 x.s.s2, .slice x.s.ra x.s.rs.length x.s.rc, .slice x.s.sa x.s.ss.length x.s.sc, .slice x.s.wa x.s.ws.length x.s.wc] 73) = W5 at *
   generalize wr.heap.size = P5 at *
   clear hbw
   go_loopw [3, 20] (fun t3 t20 wx => ∃ (j : Nat) (ai : Option Addr) (ci M : Nat), t20 = .int .i64 (j : Nat) ∧ t3 = .slice ai M ci ∧ j ≤ n ∧ Hid (M = (outE h i ++ rowE h x j).length) ∧ Hid (wx.ownsRow w.heap.size 76 2 (.slice ai M ci) M (eCells (outE h i ++ rowE h x j))) ∧ Hid (DBoxH wx P5 x) ∧ Below w.heap.size w wx) (fun _ t20 _ => n - (intOf t20).toNat)
   case atStart => exact ⟨0, ao, co, L, rfl, rfl, Nat.zero_le _, hid (by rw [HL.out]; simp [rowE]), hid (by have := HR5.out; simpa [rowE] using this), HX5, hb5⟩
   case round =>
    obtain ⟨j, ai, ci, M, rfl, rfl, hj, HM, HOI, HBX, hbx⟩ := hrel
    clear HX5 HR5 hb5 hz5
    by_cases hjl : j < n
    ·have hkl : j < h.length := by rw [HN.out]; exact hjl
     have hjl' : (j : Int) < (n : Int) := by omega
     have hky : Hid (h[j]? = some (h[j]?.getD default)) := hid (by rw [List.getElem?_eq_getElem hkl]; rfl)
     rcases (HX.out.below hbx).row with h0 | ⟨b', o', ha, hbl', hc⟩
     ·rw [h0] at hkl; simp at hkl
     cases ha
     have hc := hc j hkl
     have HSY := hid (HX.out.sub j hkl)
     have hMb : M ≤ 5000 := by
      rw [HM.out, List.length_append]
      have := rowE_len h x j
      have := HL.out
      omega
     clear hkl
     generalize h[j]?.getD default = y at *
     have d0 : wr.cell? ⟨b, o + j * 7, none⟩ = some (.int .i64 y.num) := hc 0 _ rfl
     have d1 := hc 1 _ rfl
     have d2 := hc 2 _ rfl
     have d3 := hc 3 _ rfl
     have d4 := hc 4 _ rfl
     have d5 := hc 5 _ rfl
     have d6 := hc 6 _ rfl
     clear hc
     have hB := HBX.out.box
     have g0 := hB.2 0 _ rfl
     have g1 := hB.2 1 _ rfl
     have g2 := hB.2 2 _ rfl
     have g3 := hB.2 3 _ rfl
     have g4 := hB.2 4 _ rfl
     have g5 := hB.2 5 _ rfl
     have g6 := hB.2 6 _ rfl
     have hp5 := hB.1
     have hsz := hbx.size
     clear hB
     have HLD := fun lv hlv W (hw : Below w.heap.size w W) => leads_any x y lv W (HS.out.below hw) (HSY.out.below hw) hlv
     obtain ⟨lv, hlv⟩ : ∃ lv, leadsV x y = lv := ⟨_, rfl⟩
     have HLD := HLD lv hlv
     have HLV := hid hlv
     clear hlv
     have hrow := rowE_snoc h x y hky.out
     rw [HLV.out] at hrow
     have HROW := hid hrow
     clear hrow
     cases lv
     ·go_wp2_with (go_at_call 53; (with_reducible refine (HLD _ (by (repeat (first | with_reducible exact Below.refl _ _ | ((with_reducible refine Below.alloc1 ?_ ?_ _); (· first | omega | (simp; done) | (simp; omega))) | (with_reducible refine Below.drew ?_) | (with_reducible refine below_drewN' ?_ _) | ((with_reducible refine Below.setCell1 ?_ ?_ _); (· first | omega | (simp; done) | (simp; omega))) | ((with_reducible refine Below.after (by assumption) ?_ ?_); (· first | omega | (simp; done) | (simp; omega))))))).mono ?_); rintro e w1 ⟨rfl, hb1⟩; obtain ⟨hc1, hf1⟩ := bcell hb1; (try simp only [World.heap_drewN, World.cell?_drewN, World.frozen?_drewN] at hc1 hf1); have hz1 := hb1.size; (try simp at hz1); (try have hy1_0 : w.heap.size < w1.heap.size := by omega); (try have hy1_1 : w.heap.size + 1 < w1.heap.size := by omega); (try have hx1_0 : w.heap.size ≤ w1.heap.size := by omega); (try have hx1_1 : w.heap.size + 1 ≤ w1.heap.size := by omega); (try have hu1_wr_0 : wr.heap.size < w1.heap.size := by omega))
      have hbB : Below wr.heap.size wr w1 := ((Below.alloc1 (Nat.le_refl _) (Below.refl _ _) _).trans (hb1.mono (by simp)))
      go_roundw
      case rel => exact ⟨j + 1, ai, ci, M, by go_num, rfl, by omega, hid (by rw [HROW.out, HM.out]; simp), hid (by rw [HROW.out]; simpa using HOI.out.kept (K.grown_of_below hbB) (by cases (Value.slice ai M ci).ownBlock <;> simp)), hid (HBX.out.below hbB), hbx.trans (hbB.mono hbx.size)⟩
      case measure => simp [intOf]; omega
     ·go_upto_region 11 with (go_at_call 53; (with_reducible refine (HLD _ (by (repeat (first | with_reducible exact Below.refl _ _ | ((with_reducible refine Below.alloc1 ?_ ?_ _); (· first | omega | (simp; done) | (simp; omega))) | (with_reducible refine Below.drew ?_) | (with_reducible refine below_drewN' ?_ _) | ((with_reducible refine Below.setCell1 ?_ ?_ _); (· first | omega | (simp; done) | (simp; omega))) | ((with_reducible refine Below.after (by assumption) ?_ ?_); (· first | omega | (simp; done) | (simp; omega))))))).mono ?_); rintro e w1 ⟨rfl, hb1⟩; obtain ⟨hc1, hf1⟩ := bcell hb1; (try simp only [World.heap_drewN, World.cell?_drewN, World.frozen?_drewN] at hc1 hf1); have hz1 := hb1.size; (try simp at hz1); (try have hy1_0 : w.heap.size < w1.heap.size := by omega); (try have hy1_1 : w.heap.size + 1 < w1.heap.size := by omega); (try have hx1_0 : w.heap.size ≤ w1.heap.size := by omega); (try have hx1_1 : w.heap.size + 1 ≤ w1.heap.size := by omega); (try have hu1_wr_0 : wr.heap.size < w1.heap.size := by omega))
      have hbB : Below wr.heap.size wr w1 := ((Below.alloc1 (Nat.le_refl _) (Below.refl _ _) _).trans (hb1.mono (by simp)))
      have hO1 := HOI.out.kept (K.grown_of_below hbB) (by cases (Value.slice ai M ci).ownBlock <;> simp)
      have hX1 := HBX.out.below hbB
      have hb01 := hbx.trans (hbB.mono hbx.size)
      obtain ⟨a2, c2, w2, hr2, hO2, hb2, hg2⟩ := appE (x.num, y.num) HM.out.symm hO1 hb01.size (by omega)
      have hX2 := hX1.grown hO1 (by decide) hg2
      have hb02 := hb01.trans hb2
      rw [List.append_assoc] at hO2
      have HO2 : Hid (w2.ownsRow w.heap.size 76 2 (.slice a2 (M + 1) c2) (M + 1) (eCells (outE h i ++ rowE h x (j + 1)))) := hid (by rw [HROW.out]; exact hO2)
      have HX2 := hid hX2; have HB2 := hid hb02
      have HM2 : Hid (M + 1 = (outE h i ++ rowE h x (j + 1)).length) := hid (by rw [HROW.out, ← List.append_assoc, List.length_append, ← HM.out]; rfl)
      clear hbB hO1 hX1 hb01 hO2 hb2 hg2 hX2 hb02
      simp only at hr2
      go_wp2_with (at_builtin; refine Lib.wpList_append_run _ rfl _ _ _ _ rfl _ _ rfl rfl _ _ (hr2 _) ?_)
      go_roundw
      case rel => exact ⟨j + 1, a2, c2, M + 1, by go_num, rfl, by omega, HM2, HO2, HX2, HB2.out⟩
      case measure => simp [intOf]; omega
    ·obtain rfl : j = n := by omega
     have hge : ¬ (j : Int) < (j : Int) := by omega
     have hsn : outE h i ++ rowE h x j = outE h (i + 1) := by rw [outE_snoc h x hkx.out, HN.out]
     have HO3 := HOI.out
     rw [hsn] at HO3
     have HM3 := HM.out
     rw [hsn] at HM3
     have HO4 := hid HO3; have HM4 := hid HM3
     clear HO3 HM3 hsn
     go_wp2_with fail
     go_roundw
     case rel => exact ⟨i + 1, ai, ci, M, by go_num, rfl, by omega, HM4, HO4, hbx⟩
     case measure => simp [intOf]; omega
  ·obtain rfl : i = n := by omega
   have hge : ¬ (i : Int) < (i : Int) := by omega
   have HFO : Hid (EdgesRet (edgesV h) w (.returned (.slice ao L co)) wr) := hid ⟨ao, co, by rw [HFIN.out, HL.out], by rw [HFIN.out, ← HL.out]; exact HOW.out, hbw⟩
   go_wp2_with fail
   go_ret
   exact HFO.out
end Go.Proofs.YtekmadgacepdfaaGreat.T
