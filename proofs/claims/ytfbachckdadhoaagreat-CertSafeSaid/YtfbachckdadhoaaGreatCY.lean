/- What a transaction that commits has seen: plain laws. -/
import Derived.Test.YtfbachckdadhoaaGreatCV
namespace Go.Proofs.YtfbachckdadhoaaGreat.C
set_option linter.unusedVariables false
open Go.RowKit Fl
set_option linter.unusedSimpArgs false

def Hit (its : List ItV) (kb : Nat) (n : Int) : Prop := isNaN kb = false ∧ ∃ y ∈ its, y.k = kof kb ∧ n ≤ y.n
def HitQ (its : List Q.ItV) (g : Rg) (n : Int) : Prop := ∃ y ∈ its, y.k.rg = g ∧ n ≤ y.n
theorem Hit.dom {its its' : List ItV} {kb : Nat} {n : Int} (h : Hit its kb n) (d : dom its its') : Hit its' kb n := by
 obtain ⟨h1, y, hy, h2, h3⟩ := h
 obtain ⟨z, hz, h4, h5⟩ := d y hy
 exact ⟨h1, z, hz, h4.trans h2, Int.le_trans h3 h5⟩
theorem HitQ.dom {its its' : List Q.ItV} {g : Rg} {n : Int} (h : HitQ its g n) (d : Q.dom its its') : HitQ its' g n := by
 obtain ⟨y, hy, h2, h3⟩ := h
 obtain ⟨z, hz, h4, h5⟩ := d y hy
 exact ⟨z, hz, (by rw [h4]; exact h2), Int.le_trans h3 h5⟩
theorem dom_refl (its : List ItV) : dom its its := fun x hx => ⟨x, hx, rfl, Int.le_refl _⟩
theorem domq_refl (its : List Q.ItV) : Q.dom its its := fun x hx => ⟨x, hx, rfl, Int.le_refl _⟩
theorem dom_trans {a b c : List ItV} (h : dom a b) (k : dom b c) : dom a c := fun x hx => by
 obtain ⟨y, hy, h1, h2⟩ := h x hx
 obtain ⟨z, hz, h3, h4⟩ := k y hy
 exact ⟨z, hz, h3.trans h1, Int.le_trans h2 h4⟩
theorem domq_trans {a b c : List Q.ItV} (h : Q.dom a b) (k : Q.dom b c) : Q.dom a c := fun x hx => by
 obtain ⟨y, hy, h1, h2⟩ := h x hx
 obtain ⟨z, hz, h3, h4⟩ := k y hy
 exact ⟨z, hz, h3.trans h1, Int.le_trans h2 h4⟩
theorem put_hit {its : List ItV} (hr : rises its) (hp : pos its) (most : Int) (kb : Nat) (n : Int) (h0 : (putI its most kb n).1 = 0) : Hit (putI its most kb n).2 kb n := by
 obtain ⟨h1, _, _, hm⟩ := mem_putI hr hp most kb n h0
 exact ⟨h1, ⟨kof kb, max (atI its kb) n⟩, (hm _).2 (.inr ⟨rfl, rfl⟩), rfl, by show n ≤ max _ _; omega⟩
theorem put_hitq {its : List Q.ItV} (hr : Q.rises its) (hp : Q.pos its) (most : Int) (kb : Rg) (ok : okR kb) (n : Int) (h0 : (Q.putI its most kb n).1 = 0) : HitQ (Q.putI its most kb n).2 kb n := by
 obtain ⟨h1, _, _, hm⟩ := Q.mem_putI hr hp most kb ok n h0
 exact ⟨⟨Q.keyR kb, max (Q.numI its kb) n⟩, (hm _).2 (.inr ⟨rfl, rfl⟩), Q.keyR_rg ok h1, by show n ≤ max _ _; omega⟩

structure RP (s : SumS) : Prop where
 r1 : rises s.i1
 p1 : pos s.i1
 r2 : rises s.i2
 p2 : pos s.i2
 r3 : rises s.i3
 p3 : pos s.i3
 r4 : Q.rises s.i4
 p4 : Q.pos s.i4
structure Dm (s t : SumS) : Prop where
 d1 : dom s.i1 t.i1
 d2 : dom s.i2 t.i2
 d3 : dom s.i3 t.i3
 d4 : Q.dom s.i4 t.i4
theorem Dm.refl (s : SumS) : Dm s s := ⟨dom_refl _, dom_refl _, dom_refl _, domq_refl _⟩
theorem Dm.trans {a b c : SumS} (h : Dm a b) (k : Dm b c) : Dm a c := ⟨dom_trans h.d1 k.d1, dom_trans h.d2 k.d2, dom_trans h.d3 k.d3, domq_trans h.d4 k.d4⟩
theorem note_zero {e f : Int} (h : note e f = 0) : e = 0 ∧ f = 0 := by
 unfold note at h
 by_cases h0 : e = 0
 ·rw [if_pos h0] at h; exact ⟨h0, h⟩
 ·rw [if_neg h0] at h; exact absurd h h0
theorem sW_step {m n : Int} {out : Bool} {s : SumS} (h : RP s) (k : Nat) : RP (sW m n out s k) ∧ Dm s (sW m n out s k) ∧ ((sW m n out s k).e = 0 → s.e = 0 ∧ Hit (sW m n out s k).i1 k n ∧ (out = true → Hit (sW m n out s k).i2 k n)) := by
 unfold sW
 by_cases ho : out = true
 ·rw [if_pos ho]
  refine ⟨⟨putI_rises h.r1 m k n, putI_pos h.p1 m k n, putI_rises h.r2 m k n, putI_pos h.p2 m k n, h.r3, h.p3, h.r4, h.p4⟩, ⟨putI_dom h.r1 h.p1 m k n, putI_dom h.r2 h.p2 m k n, dom_refl _, domq_refl _⟩, fun e => ?_⟩
  obtain ⟨e1, e2⟩ := note_zero e
  obtain ⟨e3, e4⟩ := note_zero e1
  exact ⟨e3, put_hit h.r1 h.p1 m k n e4, fun _ => put_hit h.r2 h.p2 m k n e2⟩
 ·rw [if_neg ho]
  refine ⟨⟨putI_rises h.r1 m k n, putI_pos h.p1 m k n, h.r2, h.p2, h.r3, h.p3, h.r4, h.p4⟩, ⟨putI_dom h.r1 h.p1 m k n, dom_refl _, dom_refl _, domq_refl _⟩, fun e => ?_⟩
  obtain ⟨e3, e4⟩ := note_zero e
  exact ⟨e3, put_hit h.r1 h.p1 m k n e4, fun h1 => absurd h1 ho⟩
theorem sR_step {m n : Int} {s : SumS} (h : RP s) (k : Nat) : RP (sR m n s k) ∧ Dm s (sR m n s k) ∧ ((sR m n s k).e = 0 → s.e = 0 ∧ Hit (sR m n s k).i3 k n) :=
 ⟨⟨h.r1, h.p1, h.r2, h.p2, putI_rises h.r3 m k n, putI_pos h.p3 m k n, h.r4, h.p4⟩, ⟨dom_refl _, dom_refl _, putI_dom h.r3 h.p3 m k n, domq_refl _⟩, fun e => by
  obtain ⟨e3, e4⟩ := note_zero e
  exact ⟨e3, put_hit h.r3 h.p3 m k n e4⟩⟩
theorem sS_step {m n : Int} {s : SumS} (h : RP s) (x : SpanV) : RP (sS m n s x) ∧ Dm s (sS m n s x) ∧ ((sS m n s x).e = 0 → s.e = 0 ∧ HitQ (sS m n s x).i4 x.rg n) :=
 ⟨⟨h.r1, h.p1, h.r2, h.p2, h.r3, h.p3, Q.putI_risesK h.r4 m (okR_canon _ _ _ _) n, Q.putI_pos h.p4 m x.rg n⟩, ⟨dom_refl _, dom_refl _, dom_refl _, Q.putI_dom h.r4 h.p4 m x.rg (okR_canon _ _ _ _) n⟩, fun e => by
  obtain ⟨e3, e4⟩ := note_zero e
  exact ⟨e3, put_hitq h.r4 h.p4 m x.rg (okR_canon _ _ _ _) n e4⟩⟩
theorem sWs_all {m n : Int} {out : Bool} : ∀ (ks : List Nat) {s : SumS}, RP s → RP (sWs m n out s ks) ∧ Dm s (sWs m n out s ks) ∧ ((sWs m n out s ks).e = 0 → s.e = 0 ∧ ∀ k ∈ ks, Hit (sWs m n out s ks).i1 k n ∧ (out = true → Hit (sWs m n out s ks).i2 k n))
 | [], s, h => ⟨h, Dm.refl s, fun e => ⟨e, fun k hk => by cases hk⟩⟩
 | k :: ks, s, h => by
  obtain ⟨a1, a2, a3⟩ := sW_step (m := m) (n := n) (out := out) h k
  obtain ⟨b1, b2, b3⟩ := sWs_all (m := m) (n := n) (out := out) ks a1
  refine ⟨b1, a2.trans b2, fun e => ?_⟩
  obtain ⟨c1, c2⟩ := b3 e
  obtain ⟨d1, d2, d3⟩ := a3 c1
  refine ⟨d1, fun k' hk' => ?_⟩
  rcases List.mem_cons.1 hk' with rfl | hk'
  ·exact ⟨d2.dom b2.d1, fun ho => (d3 ho).dom b2.d2⟩
  ·exact c2 k' hk'
theorem sRs_all {m n : Int} : ∀ (ks : List Nat) {s : SumS}, RP s → RP (sRs m n s ks) ∧ Dm s (sRs m n s ks) ∧ ((sRs m n s ks).e = 0 → s.e = 0 ∧ ∀ k ∈ ks, Hit (sRs m n s ks).i3 k n)
 | [], s, h => ⟨h, Dm.refl s, fun e => ⟨e, fun k hk => by cases hk⟩⟩
 | k :: ks, s, h => by
  obtain ⟨a1, a2, a3⟩ := sR_step (m := m) (n := n) h k
  obtain ⟨b1, b2, b3⟩ := sRs_all (m := m) (n := n) ks a1
  refine ⟨b1, a2.trans b2, fun e => ?_⟩
  obtain ⟨c1, c2⟩ := b3 e
  obtain ⟨d1, d2⟩ := a3 c1
  refine ⟨d1, fun k' hk' => ?_⟩
  rcases List.mem_cons.1 hk' with rfl | hk'
  ·exact d2.dom b2.d3
  ·exact c2 k' hk'
theorem sSs_all {m n : Int} : ∀ (ks : List SpanV) {s : SumS}, RP s → RP (sSs m n s ks) ∧ Dm s (sSs m n s ks) ∧ ((sSs m n s ks).e = 0 → s.e = 0 ∧ ∀ k ∈ ks, HitQ (sSs m n s ks).i4 k.rg n)
 | [], s, h => ⟨h, Dm.refl s, fun e => ⟨e, fun k hk => by cases hk⟩⟩
 | k :: ks, s, h => by
  obtain ⟨a1, a2, a3⟩ := sS_step (m := m) (n := n) h k
  obtain ⟨b1, b2, b3⟩ := sSs_all (m := m) (n := n) ks a1
  refine ⟨b1, a2.trans b2, fun e => ?_⟩
  obtain ⟨c1, c2⟩ := b3 e
  obtain ⟨d1, d2⟩ := a3 c1
  refine ⟨d1, fun k' hk' => ?_⟩
  rcases List.mem_cons.1 hk' with rfl | hk'
  ·exact d2.dom b2.d4
  ·exact c2 k' hk'
structure Cov (i1 i2 i3 : List ItV) (i4 : List Q.ItV) (r : RecV) : Prop where
 hw : ∀ k ∈ r.s.ws, Hit i1 k r.num
 ho : r.out = true → ∀ k ∈ r.s.ws, Hit i2 k r.num
 hr : ∀ k ∈ r.s.rs, Hit i3 k r.num
 hs : ∀ s ∈ r.s.ss, HitQ i4 s.rg r.num
theorem Cov.dom {i1 i2 i3 j1 j2 j3 : List ItV} {i4 j4 : List Q.ItV} {r : RecV} (h : Cov i1 i2 i3 i4 r) (d1 : Go.Proofs.YtfbachckdadhoaaGreat.dom i1 j1) (d2 : Go.Proofs.YtfbachckdadhoaaGreat.dom i2 j2) (d3 : Go.Proofs.YtfbachckdadhoaaGreat.dom i3 j3) (d4 : Q.dom i4 j4) : Cov j1 j2 j3 j4 r :=
 ⟨fun k hk => (h.hw k hk).dom d1, fun ho k hk => (h.ho ho k hk).dom d2, fun k hk => (h.hr k hk).dom d3, fun s hs => (h.hs s hs).dom d4⟩
theorem sumS_cov {c : CL} {r : RecV} (h : RP ⟨0, c.i1, c.i2, c.i3, c.i4⟩) : Dm ⟨0, c.i1, c.i2, c.i3, c.i4⟩ (sumS c r) ∧ ((sumS c r).e = 0 → Cov (sumS c r).i1 (sumS c r).i2 (sumS c r).i3 (sumS c r).i4 r) := by
 unfold sumS
 obtain ⟨a1, a2, a3⟩ := sWs_all (m := mostI c.old) (n := r.num) (out := r.out) r.s.ws h
 obtain ⟨b1, b2, b3⟩ := sRs_all (m := mostI c.old) (n := r.num) r.s.rs a1
 obtain ⟨c1, c2, c3⟩ := sSs_all (m := mostI c.old) (n := r.num) r.s.ss b1
 refine ⟨(a2.trans b2).trans c2, fun e => ?_⟩
 obtain ⟨e1, k4⟩ := c3 e
 obtain ⟨e2, k3⟩ := b3 e1
 obtain ⟨_, k1⟩ := a3 e2
 have d := b2.trans c2
 exact ⟨fun k hk => ((k1 k hk).1).dom d.d1, fun ho k hk => ((k1 k hk).2 ho).dom d.d2, fun k hk => (k3 k hk).dom c2.d3, k4⟩

structure Inv2 (c : CL) (ds : List RecV) (m : Nat) : Prop where
 inv : Inv c ds m
 cov : ∀ i, i < m → ∀ (h : i < ds.length), c.horizon < (ds[i]).num → Cov c.i1 c.i2 c.i3 c.i4 ds[i]
theorem Inv2.new (kp m : Int) (hk : 1 ≤ kp) (t1 t2 t3 t4 : Nat) : Inv2 (CL.n (newC kp m t1 t2 t3 t4)) [] 0 := ⟨Inv.new kp m hk t1 t2 t3 t4, fun i h => absurd h (Nat.not_lt_zero i)⟩
theorem Inv2.commit {c : CL} {ds : List RecV} {m : Nat} (h : Inv2 c ds m) (y : SubV) (out : Bool) : ∃ m', Inv2 (c.commit y out) (ds ++ [⟨c.count + 1, y, out⟩]) m' := by
 obtain ⟨m', hI, h1, h2, h3, _⟩ := h.inv.commit y out
 refine ⟨m', hI, fun i hi hl hz => ?_⟩
 have hRP : RP ⟨0, c.i1, c.i2, c.i3, c.i4⟩ := ⟨h.inv.tabs.h1.rs, h.inv.tabs.h1.ps, h.inv.tabs.h2.rs, h.inv.tabs.h2.ps, h.inv.tabs.h3.rs, h.inv.tabs.h3.ps, h.inv.tabs.h4.rs, h.inv.tabs.h4.ps⟩
 have hnum := hI.nums i hl
 have old : i < m → c.horizon < ((ds ++ [(⟨c.count + 1, y, out⟩ : RecV)])[i]).num → Cov c.i1 c.i2 c.i3 c.i4 ((ds ++ [(⟨c.count + 1, y, out⟩ : RecV)])[i]) := fun h5 h6 => by
  have hl' : i < ds.length := Nat.lt_of_lt_of_le h5 h.inv.le
  have e : (ds ++ [(⟨c.count + 1, y, out⟩ : RecV)])[i] = ds[i] := List.getElem_append_left hl'
  rw [e] at h6 ⊢
  exact h.cov i h5 hl' h6
 have hrl := congrArg List.length hI.recs
 have hdl := congrArg List.length h.inv.recs
 have hle := h.inv.le
 generalize hd : (ds ++ [(⟨c.count + 1, y, out⟩ : RecV)])[i] = d at *
 revert hrl hz
 unfold CL.commit
 simp only
 by_cases hk : c.keep < ((c.recs ++ [(⟨c.count + 1, y, out⟩ : RecV)]).length : Int)
 ·rw [if_pos hk]
  intro hrl hz
  have hm' : m' = m + 1 := by
   simp only [List.length_drop, List.length_append, List.length_singleton] at hrl hdl
   omega
  have hml : m < (ds ++ [(⟨c.count + 1, y, out⟩ : RecV)]).length := by rw [List.length_append, List.length_singleton]; omega
  have hhd : (c.recs ++ [(⟨c.count + 1, y, out⟩ : RecV)]).headD ⟨0, y, out⟩ = (ds ++ [(⟨c.count + 1, y, out⟩ : RecV)])[m] := by
   rw [h.inv.recs, ← List.drop_append_of_le_length h.inv.le, List.headD_eq_head?_getD, List.head?_drop, List.getElem?_eq_getElem hml]; rfl
  have hnm : ((c.recs ++ [(⟨c.count + 1, y, out⟩ : RecV)]).headD ⟨0, y, out⟩).num = (m : Int) + 1 := by rw [hhd]; exact hI.nums m hml
  have hdm : i = m → d = (c.recs ++ [(⟨c.count + 1, y, out⟩ : RecV)]).headD ⟨0, y, out⟩ := fun e => by subst e; rw [hhd, ← hd]
  generalize (c.recs ++ [(⟨c.count + 1, y, out⟩ : RecV)]).headD ⟨0, y, out⟩ = hdv at *
  have hS := sumS_cov (c := { c with count := c.count + 1, recs := c.recs ++ [(⟨c.count + 1, y, out⟩ : RecV)] }) (r := hdv) hRP
  revert hz
  unfold CL.sum
  simp only
  generalize sumS { c with count := c.count + 1, recs := c.recs ++ [(⟨c.count + 1, y, out⟩ : RecV)] } hdv = S at *
  by_cases he : S.e = 0
  ·rw [if_pos he]
   intro hz
   simp only at hz ⊢
   rcases Nat.lt_or_ge i m with h5 | h5
   ·exact (old h5 hz).dom hS.1.d1 hS.1.d2 hS.1.d3 hS.1.d4
   ·have := hdm (by omega)
    subst this
    exact hS.2 he
  ·rw [if_neg he]
   intro hz
   simp only at hz
   omega
 ·rw [if_neg hk]
  intro hrl hz
  simp only [List.length_drop, List.length_append, List.length_singleton] at hrl hdl
  exact old (by omega) hz

theorem Hit.at_ {its : List ItV} (hr : rises its) {kb k : Nat} {n : Int} (h : Hit its kb n) (he : feq kb k = true) : n ≤ atI its k := by
 obtain ⟨h1, y, hy, h2, h3⟩ := h
 obtain ⟨a1, a2, a3⟩ := feqC_val he
 have e : kof kb = kof k := Key.ext' a3
 have := atI_of hr hy (kb := k) (by rw [h2, e]; exact (key_code a2).symm)
 omega
theorem Hit.over {its : List ItV} {kb : Nat} {g : Rg} {n : Int} (h : Hit its kb n) (hb : hasB g kb = true) : n ≤ overI its g := by
 obtain ⟨h1, y, hy, h2, h3⟩ := h
 exact Int.le_trans h3 (overI_mem hy (by rw [hasB_keyed h1 h2]; exact hb))
theorem HitQ.at_ {its : List Q.ItV} {g : Rg} {k : Nat} {n : Int} (h : HitQ its g n) (hb : hasB g k = true) : n ≤ Q.atI its k := by
 obtain ⟨y, hy, h2, h3⟩ := h
 exact Int.le_trans h3 (Q.at_ge hy (by rw [h2]; exact hb))
theorem overR_from (its : List ItV) : ∀ (rs : List Nat) (n : Int), n ≤ overR its n rs
 | [], n => Int.le_refl _
 | k :: rs, n => Int.le_trans (by omega) (overR_from its rs (max n (atI its k)))
theorem overR_in {its : List ItV} {k : Nat} : ∀ (rs : List Nat) (n : Int), k ∈ rs → atI its k ≤ overR its n rs
 | r :: rs, n, h => by
  rcases List.mem_cons.1 h with rfl | h
  ·exact Int.le_trans (by omega) (overR_from its rs (max n (atI its k)))
  ·exact overR_in rs (max n (atI its r)) h
theorem overS_from (its : List ItV) : ∀ (rs : List SpanV) (n : Int), n ≤ overS its n rs
 | [], n => Int.le_refl _
 | k :: rs, n => Int.le_trans (by omega) (overS_from its rs (max n (overI its k.rg)))
theorem overS_in {its : List ItV} {k : SpanV} : ∀ (rs : List SpanV) (n : Int), k ∈ rs → overI its k.rg ≤ overS its n rs
 | r :: rs, n, h => by
  rcases List.mem_cons.1 h with rfl | h
  ·exact Int.le_trans (by omega) (overS_from its rs (max n (overI its k.rg)))
  ·exact overS_in rs (max n (overI its r.rg)) h
theorem overD_hit {its : List ItV} (hr : rises its) {x : SubV} {kb : Nat} {n : Int} (h : Hit its kb n) (hx : x.reads kb = true) : n ≤ overD its x := by
 unfold SubV.reads at hx
 rw [Bool.or_eq_true] at hx
 unfold overD
 rcases hx with hx | hx
 ·obtain ⟨k, hk, he⟩ := List.any_eq_true.1 hx
  exact Int.le_trans (Int.le_trans (h.at_ hr he) (overR_in x.rs 0 hk)) (overS_from its x.ss _)
 ·obtain ⟨s, hs, he⟩ := List.any_eq_true.1 hx
  exact Int.le_trans (h.over he) (overS_in x.ss _ hs)
theorem lks_mono {i1 i3 : List ItV} {i4 : List Q.ItV} {s2 : Int} : ∀ (ws : List Nat) (l : Bool × Int), (l.1 = true → (ws.foldl (lkW i1 i3 i4 s2) l).1 = true) ∧ l.2 ≤ (ws.foldl (lkW i1 i3 i4 s2) l).2
 | [], l => ⟨id, Int.le_refl _⟩
 | k :: ws, l => by
  obtain ⟨h1, h2⟩ := lks_mono (i1 := i1) (i3 := i3) (i4 := i4) (s2 := s2) ws (lkW i1 i3 i4 s2 l k)
  rw [List.foldl_cons]
  refine ⟨fun h => h1 (by unfold lkW; simp only; rw [h]; rfl), Int.le_trans ?_ h2⟩
  unfold lkW
  simp only
  omega
theorem lks_in {i1 i3 : List ItV} {i4 : List Q.ItV} {s2 : Int} {k : Nat} : ∀ (ws : List Nat) (l : Bool × Int), k ∈ ws → (s2 < atI i1 k → (ws.foldl (lkW i1 i3 i4 s2) l).1 = true) ∧ atI i3 k ≤ (ws.foldl (lkW i1 i3 i4 s2) l).2 ∧ Q.atI i4 k ≤ (ws.foldl (lkW i1 i3 i4 s2) l).2
 | k' :: ws, l, h => by
  rw [List.foldl_cons]
  rcases List.mem_cons.1 h with rfl | h
  ·obtain ⟨h1, h2⟩ := lks_mono (i1 := i1) (i3 := i3) (i4 := i4) (s2 := s2) ws (lkW i1 i3 i4 s2 l k)
   refine ⟨fun h => h1 (by unfold lkW; simp only; rw [decide_eq_true h, Bool.or_true]), Int.le_trans ?_ h2, Int.le_trans ?_ h2⟩ <;> unfold lkW <;> simp only <;> omega
  ·exact lks_in ws _ h

theorem recL_mono (x : SubV) (l : LookV) (r : RecV) : (l.written = true → (recL x l r).written = true) ∧ (l.out = true → (recL x l r).out = true) ∧ (l.least ≠ 0 → (recL x l r).least = l.least) := by
 unfold recL
 split
 ·exact ⟨id, id, fun _ => rfl⟩
 ·refine ⟨fun h => by simp only; rw [h]; rfl, fun h => by simp only; rw [h]; rfl, fun h => by simp only; rw [if_neg (fun h' => h h'.2)]⟩
theorem recsL_mono (x : SubV) : ∀ (rs : List RecV) (l : LookV), (l.written = true → (recsL x l rs).written = true) ∧ (l.out = true → (recsL x l rs).out = true) ∧ (l.least ≠ 0 → (recsL x l rs).least = l.least)
 | [], l => ⟨id, id, fun _ => rfl⟩
 | r :: rs, l => by
  obtain ⟨a1, a2, a3⟩ := recL_mono x l r
  obtain ⟨b1, b2, b3⟩ := recsL_mono x rs (recL x l r)
  exact ⟨fun h => b1 (a1 h), fun h => b2 (a2 h), fun h => (b3 (by rw [a3 h]; exact h)).trans (a3 h)⟩
theorem recsL_most (x : SubV) (v : Int) : ∀ (rs : List RecV) (l : LookV), v ≤ l.most → (∀ r ∈ rs, v ≤ r.num) → v ≤ (recsL x l rs).most
 | [], _, h, _ => h
 | r :: rs, l, h, hr => recsL_most x v rs (recL x l r) (by
   unfold recL
   split
   ·exact h
   ·simp only
    split
    ·exact hr r List.mem_cons_self
    ·exact h) fun r' h' => hr r' (List.mem_cons_of_mem _ h')
def upN (rs : List RecV) : Prop := rs.Pairwise fun a b => a.num < b.num
theorem recsL_in (x : SubV) {r : RecV} (hx : x.s2 < r.num) (hp : 0 < r.num) : ∀ (rs : List RecV) (l : LookV), upN rs → r ∈ rs → (l.least = 0 ∨ (0 < l.least ∧ l.least ≤ x.s2 + 1) ∨ (0 < l.least ∧ ∀ r ∈ rs, l.least ≤ r.num)) → (∀ r ∈ rs, x.s2 < r.num → 0 < r.num) →
  ((x.ws.any fun k => r.s.writes k) = true → (recsL x l rs).written = true) ∧ (x.meets r.s = true → 0 < (recsL x l rs).least ∧ (recsL x l rs).least ≤ r.num) ∧ (x.meets r.s = true → r.out = true → (recsL x l rs).out = true) ∧ (r.s.meets x = true → r.num ≤ (recsL x l rs).most)
 | r' :: rs, l, hu, hr, hl, hps => by
  obtain ⟨u1, u2⟩ := List.pairwise_cons.1 hu
  have hm := recsL_mono x rs (recL x l r')
  rcases List.mem_cons.1 hr with rfl | hr
  ·have e : recL x l r = ⟨l.written || x.ws.any (fun k => r.s.writes k), l.out || (x.meets r.s && r.out), if x.meets r.s = true ∧ l.least = 0 then r.num else l.least, if r.s.meets x = true then r.num else l.most⟩ := by
    unfold recL; rw [if_neg (by omega)]
   refine ⟨fun h => hm.1 (by rw [e, h]; exact Bool.or_true _), fun h => ?_, fun h ho => hm.2.1 (by rw [e, h, ho]; exact Bool.or_true _), fun h => ?_⟩
   ·have e2 : 0 < (recL x l r).least ∧ (recL x l r).least ≤ r.num := by
     rw [e]
     simp only
     rw [h]
     rcases hl with hl | hl | hl
     ·rw [if_pos ⟨rfl, hl⟩]; exact ⟨hp, Int.le_refl _⟩
     ·rw [if_neg (fun h' => by omega)]; omega
     ·rw [if_neg (fun h' => by omega)]; exact ⟨hl.1, hl.2 r List.mem_cons_self⟩
    show 0 < (recsL x (recL x l r) rs).least ∧ (recsL x (recL x l r) rs).least ≤ r.num
    rw [hm.2.2 (by omega)]
    exact e2
   ·refine recsL_most x r.num rs (recL x l r) ?_ fun q hq => Int.le_of_lt (u1 q hq)
    rw [e]; simp only; rw [if_pos h]; exact Int.le_refl _
  ·refine recsL_in x hx hp rs (recL x l r') u2 hr ?_ fun q hq => hps q (List.mem_cons_of_mem _ hq)
   unfold recL
   split
   ·rcases hl with hl | hl | hl
    ·exact .inl hl
    ·exact .inr (.inl hl)
    ·exact .inr (.inr ⟨hl.1, fun q hq => hl.2 q (List.mem_cons_of_mem _ hq)⟩)
   ·rename_i h0
    simp only
    split
    ·rename_i h1
     exact .inr (.inr ⟨hps r' List.mem_cons_self (by omega), fun q hq => Int.le_of_lt (u1 q hq)⟩)
    ·rcases hl with hl | hl | hl
     ·exact .inl hl
     ·exact .inr (.inl hl)
     ·exact .inr (.inr ⟨hl.1, fun q hq => hl.2 q (List.mem_cons_of_mem _ hq)⟩)

structure Seen (ds : List RecV) (x : SubV) (out : Bool) : Prop where
 w : ∀ r ∈ ds, x.s2 < r.num → (x.ws.any fun k => r.s.writes k) = false
 o : ∀ r ∈ ds, x.s2 < r.num → x.meets r.s = true → r.out = false ∧ out = true
 d : ∀ r ∈ ds, ∀ q ∈ ds, x.s2 < r.num → x.s2 < q.num → x.meets r.s = true → q.s.meets x = true → q.num < r.num
theorem Inv.up {c : CL} {ds : List RecV} {m : Nat} (h : Inv c ds m) : upN c.recs := by
 have hu : upN ds := by
  unfold upN
  rw [List.pairwise_iff_getElem]
  intro i j hi hj hij
  rw [h.nums i hi, h.nums j hj]; omega
 unfold upN
 rw [h.recs]
 exact hu.sublist (List.drop_sublist _ _)
theorem seen_of {c : CL} {ds : List RecV} {m : Nat} (h : Inv2 c ds m) {x : SubV} (h0 : codeD c x 0 = 0) : Seen ds x (decide (0 < (lookD c x).least)) := by
 have hz : c.horizon ≤ x.s2 := by
  refine Classical.byContradiction fun hc => ?_
  unfold codeD at h0
  rw [if_neg (by simp)] at h0
  split at h0
  ·simp at h0
  ·split at h0
   ·simp at h0
   ·rw [if_pos (by omega)] at h0; simp at h0
 have hl : (lookD c x).written = false ∧ (lookD c x).out = false ∧ ¬ (0 < (lookD c x).least ∧ 0 < (lookD c x).most ∧ (lookD c x).least ≤ (lookD c x).most) := by
  unfold codeD at h0
  rw [if_neg (by simp)] at h0
  split at h0
  ·simp at h0
  ·split at h0
   ·simp at h0
   ·split at h0
    ·simp at h0
    ·simp only at h0
     cases hw : (lookD c x).written
     ·rw [hw] at h0
      rw [if_neg (by simp)] at h0
      by_cases hq : (lookD c x).out = true ∨ (0 < (lookD c x).least ∧ 0 < (lookD c x).most ∧ (lookD c x).least ≤ (lookD c x).most)
      ·rw [if_pos hq] at h0; simp at h0
      ·refine ⟨rfl, ?_, fun h' => hq (.inr h')⟩
       cases ho : (lookD c x).out
       ·rfl
       ·exact absurd (.inl ho) hq
     ·rw [hw] at h0; simp at h0
 have hh0 := h.inv.h0
 have hlp : (sumL c x).least = 0 ∨ (0 < (sumL c x).least ∧ (sumL c x).least ≤ x.s2 + 1) := by
  unfold sumL
  simp only
  split
  ·right; omega
  ·left; rfl
 have hps : ∀ r ∈ ds, 0 < r.num := fun r hr => by have := (h.inv.num hr).1; omega
 have hpr : ∀ r ∈ c.recs, x.s2 < r.num → 0 < r.num := fun r hr _ => hps r (by rw [h.inv.recs] at hr; exact List.mem_of_mem_drop hr)
 have hlp3 : (sumL c x).least = 0 ∨ (0 < (sumL c x).least ∧ (sumL c x).least ≤ x.s2 + 1) ∨ (0 < (sumL c x).least ∧ ∀ r ∈ c.recs, (sumL c x).least ≤ r.num) := hlp.imp id .inl
 have hM := recsL_mono x c.recs (sumL c x)
 have key : ∀ r ∈ ds, x.s2 < r.num → ((x.ws.any fun k => r.s.writes k) = true → (lookD c x).written = true) ∧ (x.meets r.s = true → 0 < (lookD c x).least ∧ (lookD c x).least ≤ r.num) ∧ (x.meets r.s = true → r.out = true → (lookD c x).out = true) ∧ (r.s.meets x = true → r.num ≤ (lookD c x).most) := by
  intro r hr hx
  obtain ⟨i, hi, rfl⟩ := List.getElem_of_mem hr
  rcases Nat.lt_or_ge i m with him | him
  ·have hc := h.cov i him hi (by omega)
   have hni := h.inv.nums i hi
   have hge : ∀ q ∈ c.recs, (ds[i]).num ≤ q.num := fun q hq => by
    rw [h.inv.recs] at hq
    obtain ⟨j, hj, rfl⟩ := List.getElem_of_mem hq
    rw [List.getElem_drop]
    have h7 := h.inv.nums (m + j) (by rw [List.length_drop] at hj; omega)
    omega
   generalize ds[i] = r at *
   refine ⟨fun hw => hM.1 ?_, fun hw => ?_, fun hw ho => hM.2.1 ?_, fun hw => recsL_most x r.num c.recs _ ?_ hge⟩
   ·obtain ⟨k, hk, hw⟩ := List.any_eq_true.1 hw
    obtain ⟨kb, hkb, he⟩ := List.any_eq_true.1 hw
    have := (hc.hw kb hkb).at_ h.inv.tabs.h1.rs (by rw [feq_comm']; exact he)
    exact (lks_in (i1 := c.i1) (i3 := c.i3) (i4 := c.i4) (s2 := x.s2) x.ws (false, 0) hk).1 (by omega)
   ·obtain ⟨kb, hkb, he⟩ := List.any_eq_true.1 hw
    have := overD_hit h.inv.tabs.h1.rs (hc.hw kb hkb) he
    have e : (sumL c x).least = x.s2 + 1 := by unfold sumL; simp only; rw [if_pos (by omega)]
    have e2 : (lookD c x).least = x.s2 + 1 := (hM.2.2 (by omega)).trans e
    rw [e2]
    omega
   ·obtain ⟨kb, hkb, he⟩ := List.any_eq_true.1 hw
    have := overD_hit h.inv.tabs.h2.rs (hc.ho ho kb hkb) he
    unfold sumL
    simp only
    rw [decide_eq_true (by omega)]
   ·obtain ⟨k, hk, he⟩ := List.any_eq_true.1 hw
    have h3 := lks_in (i1 := c.i1) (i3 := c.i3) (i4 := c.i4) (s2 := x.s2) x.ws (false, 0) hk
    have h4 : r.num ≤ (x.ws.foldl (lkW c.i1 c.i3 c.i4 x.s2) (false, 0)).2 := by
     unfold SubV.reads at he
     rw [Bool.or_eq_true] at he
     rcases he with he | he
     ·obtain ⟨kb, hkb, he⟩ := List.any_eq_true.1 he
      exact Int.le_trans ((hc.hr kb hkb).at_ h.inv.tabs.h3.rs (by rw [feq_comm']; exact he)) h3.2.1
     ·obtain ⟨s, hs, he⟩ := List.any_eq_true.1 he
      exact Int.le_trans ((hc.hs s hs).at_ he) h3.2.2
    unfold sumL lksW
    simp only
    rw [if_neg (by omega)]
    exact h4
  ·have hrec : ds[i] ∈ c.recs := by
    rw [h.inv.recs]
    have : ds[i] = (ds.drop m)[i - m]'(by rw [List.length_drop]; omega) := by rw [List.getElem_drop]; congr 1; omega
    rw [this]; exact List.getElem_mem _
   exact recsL_in x hx (hps _ hr) c.recs (sumL c x) h.inv.up hrec hlp3 hpr
 refine ⟨fun r hr hx => ?_, fun r hr hx hm => ⟨?_, ?_⟩, fun r hr q hq hx hy hm hn => ?_⟩
 ·cases hw : x.ws.any fun k => r.s.writes k
  ·rfl
  ·have := (key r hr hx).1 hw
   rw [hl.1] at this; cases this
 ·cases ho : r.out
  ·rfl
  ·have := (key r hr hx).2.2.1 hm ho
   rw [hl.2.1] at this; cases this
 ·have := ((key r hr hx).2.1 hm).1
  exact decide_eq_true this
 ·have k1 := (key r hr hx).2.1 hm
  have k2 := (key q hq hy).2.2.2 hn
  have hq0 := hps q hq
  have := hl.2.2
  omega

def Safe (ds : List RecV) : Prop := ∀ i (h : i < ds.length), Seen (ds.take i) (ds[i]).s (ds[i]).out
theorem Safe.nil : Safe [] := fun i h => absurd h (Nat.not_lt_zero i)
theorem Safe.snoc {ds : List RecV} (h : Safe ds) {r : RecV} (hs : Seen ds r.s r.out) : Safe (ds ++ [r]) := fun i hi => by
 rcases Nat.lt_or_ge i ds.length with hl | hl
 ·rw [List.take_append_of_le_length (Nat.le_of_lt hl), List.getElem_append_left hl]
  exact h i hl
 ·have : i = ds.length := by rw [List.length_append, List.length_singleton] at hi; omega
  subst this
  rw [List.take_append_of_le_length (Nat.le_refl _), List.take_length, List.getElem_append_right (Nat.le_refl _)]
  simpa using hs
def numsUp (ds : List RecV) : Prop := ∀ i (h : i < ds.length), (ds[i]).num = (i : Int) + 1
theorem take_mem {ds : List RecV} {i j : Nat} (hi : i < ds.length) (hj : i < j) : ds[i] ∈ ds.take j := by
 have : ds[i] = (ds.take j)[i]'(by rw [List.length_take]; omega) := by rw [List.getElem_take]
 rw [this]; exact List.getElem_mem _
theorem safe_write {ds : List RecV} (h : Safe ds) (hn : numsUp ds) {a b : RecV} (ha : a ∈ ds) (hb : b ∈ ds) (h1 : a.num ≠ b.num) (h2 : a.s.s2 < b.num) (h3 : b.s.s2 < a.num) {k : Nat} (hk : k ∈ a.s.ws) : b.s.writes k = false := by
 obtain ⟨i, hi, rfl⟩ := List.getElem_of_mem ha
 obtain ⟨j, hj, rfl⟩ := List.getElem_of_mem hb
 have n1 := hn i hi; have n2 := hn j hj
 cases hw : (ds[j]).s.writes k
 ·rfl
 ·rcases Nat.lt_trichotomy i j with hij | hij | hij
  ·have := (h j hj).w _ (take_mem hi hij) h3
   obtain ⟨kb, hkb, he⟩ := List.any_eq_true.1 hw
   rw [List.any_eq_false] at this
   exact absurd (List.any_eq_true.2 ⟨k, hk, by rw [feq_comm']; exact he⟩) (this kb hkb)
  ·subst hij; exact absurd rfl h1
  ·have := (h i hi).w _ (take_mem hj hij) h2
   rw [List.any_eq_false] at this
   exact absurd hw (this k hk)
theorem safe_three {ds : List RecV} (h : Safe ds) (hn : numsUp ds) {a b d : RecV} (ha : a ∈ ds) (hb : b ∈ ds) (hd : d ∈ ds) (h1 : a.num ≠ b.num) (h2 : a.s.s2 < b.num) (h3 : b.s.s2 < a.num) (hm : a.s.meets b.s = true)
  (hnd : (b.num ≠ d.num ∧ b.s.s2 < d.num ∧ d.s.s2 < b.num) ∨ d.num = a.num) (hm2 : b.s.meets d.s = true) (h4 : d.num ≤ a.num) (h5 : d.num < b.num) : False := by
 obtain ⟨i, hi, rfl⟩ := List.getElem_of_mem ha
 obtain ⟨j, hj, rfl⟩ := List.getElem_of_mem hb
 obtain ⟨l, hl, rfl⟩ := List.getElem_of_mem hd
 have n1 := hn i hi; have n2 := hn j hj; have n3 := hn l hl
 have hlj : l < j := by omega
 have hbd : (ds[j]).s.s2 < (ds[l]).num := by omega
 rcases Nat.lt_or_ge i j with hij | hij
 ·have := (h j hj).d _ (take_mem hl hlj) _ (take_mem hi hij) hbd h3 hm2 hm
  omega
 ·have hij' : j < i := by
   rcases Nat.lt_or_ge j i with h6 | h6
   ·exact h6
   ·have : i = j := by omega
    subst this
    rcases hnd with h7 | h7 <;> omega
  have k1 := ((h j hj).o _ (take_mem hl hlj) hbd hm2).2
  have k2 := ((h i hi).o _ (take_mem hj hij') h2 hm).1
  rw [k1] at k2; cases k2
end Go.Proofs.YtfbachckdadhoaaGreat.C
