/- What the summary holds has committed: plain laws. -/
import Derived.Test.YtfbachckdadhoaaGreatMCR
import Derived.Test.YtfbachckdadhoaaGreatMVG
import Derived.Test.YtfbachckdadhoaaGreatMQG
namespace Go.Proofs.YtfbachckdadhoaaGreat.C
set_option linter.unusedVariables false
open Go.RowKit Fl
set_option linter.unusedSimpArgs false

theorem feqC_val {a b : Nat} (h : feq a b = true) : isNaN a = false ∧ isNaN b = false ∧ (kof a).v = (kof b).v := by
 unfold feq at h
 simp only [Bool.and_eq_true, decide_eq_true_eq, Bool.not_eq_true'] at h
 exact ⟨h.1.1, h.1.2, h.2⟩
theorem feq_mk {a b : Nat} (h1 : isNaN a = false) (h2 : isNaN b = false) (h : kof a = kof b) : feq a b = true := by
 unfold feq; simp [h1, h2, h]
theorem hasB_keyed {r : Rg} {k : Key} {a : Nat} (hn : isNaN a = false) (hk : k = kof a) : hasB r k.bits = hasB r a := by
 subst hk
 cases r with
 | none => rfl
 | some p => unfold hasB fle; simp only [Key.bits_nan, Key.kof_bits, hn]
theorem putI_from {its : List ItV} (hr : rises its) (hp : pos its) (most : Int) (kb : Nat) (n : Int) {x : ItV} (hx : x ∈ (putI its most kb n).2) : x ∈ its ∨ (isNaN kb = false ∧ x.k = kof kb ∧ x.n = n) := by
 by_cases h0 : (putI its most kb n).1 = 0
 ·obtain ⟨h1, h2, h3, hm⟩ := mem_putI hr hp most kb n h0
  rcases (hm x).1 hx with ⟨h4, _⟩ | ⟨h4, h5⟩
  ·exact .inl h4
  ·rcases Int.le_total (atI its kb) n with h6 | h6
   ·exact .inr ⟨h1, h4, by rw [h5, Int.max_eq_right h6]⟩
   ·rw [Int.max_eq_left h6] at h5
    rcases atI_char (its := its) kb with ⟨y, hy, h7, h8⟩ | h8
    ·have h9 := (code_key h7).2
     have : x = y := by
      cases x; cases y; simp only at h4 h5 h8 h9 ⊢
      rw [h4, h5, h8, h9]
     exact .inl (this ▸ hy)
    ·omega
 ·rw [putI_same h0] at hx; exact .inl hx
theorem putQ_from {its : List Q.ItV} (hr : Q.rises its) (hp : Q.pos its) (most : Int) (kb : Rg) (ok : okR kb) (n : Int) {x : Q.ItV} (hx : x ∈ (Q.putI its most kb n).2) : x ∈ its ∨ (x.k.rg = kb ∧ x.n = n) := by
 by_cases h0 : (Q.putI its most kb n).1 = 0
 ·obtain ⟨h1, h2, h3, hm⟩ := Q.mem_putI hr hp most kb ok n h0
  rcases (hm x).1 hx with ⟨h4, _⟩ | ⟨h4, h5⟩
  ·exact .inl h4
  ·rcases Int.le_total (Q.numI its kb) n with h6 | h6
   ·exact .inr ⟨by rw [h4, Q.keyR_rg ok h1], by rw [h5, Int.max_eq_right h6]⟩
   ·rw [Int.max_eq_left h6] at h5
    rcases Q.numI_char (its := its) kb with ⟨y, hy, h7, h8⟩ | h8
    ·have h9 := (Q.code_key ok h7).2
     have : x = y := by
      cases x; cases y; simp only at h4 h5 h8 h9 ⊢
      rw [h4, h5, h8, h9]
     exact .inl (this ▸ hy)
    ·omega
 ·rw [Q.putI_same h0] at hx; exact .inl hx

def From (ds : List RecV) (f : SubV → List Nat) (its : List ItV) : Prop := ∀ it ∈ its, ∃ r ∈ ds, r.num = it.n ∧ ∃ kb ∈ f r.s, isNaN kb = false ∧ it.k = kof kb
def FromQ (ds : List RecV) (its : List Q.ItV) : Prop := ∀ it ∈ its, ∃ r ∈ ds, r.num = it.n ∧ ∃ s ∈ r.s.ss, it.k.rg = s.rg
theorem From.more {ds : List RecV} {f : SubV → List Nat} {its : List ItV} (h : From ds f its) {ds' : List RecV} (hs : ∀ r ∈ ds, r ∈ ds') : From ds' f its := fun it hi => by
 obtain ⟨r, h1, h2⟩ := h it hi; exact ⟨r, hs r h1, h2⟩
theorem FromQ.more {ds : List RecV} {its : List Q.ItV} (h : FromQ ds its) {ds' : List RecV} (hs : ∀ r ∈ ds, r ∈ ds') : FromQ ds' its := fun it hi => by
 obtain ⟨r, h1, h2⟩ := h it hi; exact ⟨r, hs r h1, h2⟩
structure TbF (ds : List RecV) (f : SubV → List Nat) (its : List ItV) : Prop where
 rs : rises its
 ps : pos its
 fr : From ds f its
structure TbQ (ds : List RecV) (its : List Q.ItV) : Prop where
 rs : Q.rises its
 ps : Q.pos its
 fr : FromQ ds its
theorem TbF.nil (ds : List RecV) (f : SubV → List Nat) : TbF ds f [] := ⟨List.Pairwise.nil, pos_nil, fun _ h => absurd h (by simp)⟩
theorem TbQ.nil (ds : List RecV) : TbQ ds [] := ⟨List.Pairwise.nil, Q.pos_nil, fun _ h => absurd h (by simp)⟩
theorem TbF.put {ds : List RecV} {f : SubV → List Nat} {its : List ItV} (h : TbF ds f its) (most : Int) {r : RecV} (hr : r ∈ ds) {k : Nat} (hk : k ∈ f r.s) : TbF ds f (putI its most k r.num).2 :=
 ⟨putI_rises h.rs most k r.num, putI_pos h.ps most k r.num, fun it hi => by
  rcases putI_from h.rs h.ps most k r.num hi with h1 | ⟨h1, h2, h3⟩
  ·exact h.fr it h1
  ·exact ⟨r, hr, h3.symm, k, hk, h1, h2⟩⟩
theorem TbQ.put {ds : List RecV} {its : List Q.ItV} (h : TbQ ds its) (most : Int) {r : RecV} (hr : r ∈ ds) {s : SpanV} (hk : s ∈ r.s.ss) : TbQ ds (Q.putI its most s.rg r.num).2 :=
 ⟨Q.putI_risesK h.rs most (okR_canon _ _ _ _) r.num, Q.putI_pos h.ps most s.rg r.num, fun it hi => by
  rcases putQ_from h.rs h.ps most s.rg (okR_canon _ _ _ _) r.num hi with h1 | ⟨h1, h2⟩
  ·exact h.fr it h1
  ·exact ⟨r, hr, h2.symm, s, hk, h1⟩⟩
structure Tabs (ds : List RecV) (i1 i2 i3 : List ItV) (i4 : List Q.ItV) : Prop where
 h1 : TbF ds SubV.ws i1
 h2 : TbF ds SubV.ws i2
 h3 : TbF ds SubV.rs i3
 h4 : TbQ ds i4
theorem Tabs.nil (ds : List RecV) : Tabs ds [] [] [] [] := ⟨.nil _ _, .nil _ _, .nil _ _, .nil _⟩
def SumS.ok (ds : List RecV) (s : SumS) : Prop := Tabs ds s.i1 s.i2 s.i3 s.i4
theorem sW_ok {ds : List RecV} {m : Int} {r : RecV} (hr : r ∈ ds) {s : SumS} (h : s.ok ds) {k : Nat} (hk : k ∈ r.s.ws) : (sW m r.num r.out s k).ok ds := by
 unfold sW
 by_cases ho : r.out = true
 ·rw [if_pos ho]; exact ⟨h.h1.put m hr hk, h.h2.put m hr hk, h.h3, h.h4⟩
 ·rw [if_neg ho]; exact ⟨h.h1.put m hr hk, h.h2, h.h3, h.h4⟩
theorem sWs_ok {ds : List RecV} {m : Int} {r : RecV} (hr : r ∈ ds) : ∀ (ks : List Nat) {s : SumS}, s.ok ds → (∀ k ∈ ks, k ∈ r.s.ws) → (sWs m r.num r.out s ks).ok ds
 | [], _, h, _ => h
 | k :: ks, s, h, hk => sWs_ok hr ks (sW_ok hr h (hk k List.mem_cons_self)) fun k' h' => hk k' (List.mem_cons_of_mem _ h')
theorem sRs_ok {ds : List RecV} {m : Int} {r : RecV} (hr : r ∈ ds) : ∀ (ks : List Nat) {s : SumS}, s.ok ds → (∀ k ∈ ks, k ∈ r.s.rs) → (sRs m r.num s ks).ok ds
 | [], _, h, _ => h
 | k :: ks, s, h, hk => sRs_ok hr ks (s := sR m r.num s k) ⟨h.h1, h.h2, h.h3.put m hr (hk k List.mem_cons_self), h.h4⟩ fun k' h' => hk k' (List.mem_cons_of_mem _ h')
theorem sSs_ok {ds : List RecV} {m : Int} {r : RecV} (hr : r ∈ ds) : ∀ (ks : List SpanV) {s : SumS}, s.ok ds → (∀ k ∈ ks, k ∈ r.s.ss) → (sSs m r.num s ks).ok ds
 | [], _, h, _ => h
 | k :: ks, s, h, hk => sSs_ok hr ks (s := sS m r.num s k) ⟨h.h1, h.h2, h.h3, h.h4.put m hr (hk k List.mem_cons_self)⟩ fun k' h' => hk k' (List.mem_cons_of_mem _ h')
theorem sumS_ok {ds : List RecV} {c : CL} {r : RecV} (hr : r ∈ ds) (h : Tabs ds c.i1 c.i2 c.i3 c.i4) : (sumS c r).ok ds :=
 sSs_ok hr _ (sRs_ok hr _ (sWs_ok hr _ (s := ⟨0, c.i1, c.i2, c.i3, c.i4⟩) h fun _ h => h) fun _ h => h) fun _ h => h

structure Inv (c : CL) (ds : List RecV) (m : Nat) : Prop where
 keep : 1 ≤ c.keep
 count : c.count = (ds.length : Int)
 nums : ∀ i (h : i < ds.length), (ds[i]).num = (i : Int) + 1
 recs : c.recs = ds.drop m
 le : m ≤ ds.length
 few : (c.recs.length : Int) ≤ c.keep
 h0 : 0 ≤ c.horizon
 hm : c.horizon ≤ m
 tabs : Tabs ds c.i1 c.i2 c.i3 c.i4
theorem Inv.num {c : CL} {ds : List RecV} {m : Nat} (h : Inv c ds m) {r : RecV} (hr : r ∈ ds) : 1 ≤ r.num ∧ r.num ≤ c.count := by
 obtain ⟨i, hi, rfl⟩ := List.getElem_of_mem hr
 rw [h.nums i hi, h.count]; omega
theorem Inv.hz {c : CL} {ds : List RecV} {m : Nat} (h : Inv c ds m) : c.horizon ≤ c.count - (c.recs.length : Int) := by
 have h1 := h.hm; have h2 := h.count; have h3 := h.recs; have h4 := h.le
 rw [h3, List.length_drop]; omega
theorem Inv.new (kp m : Int) (hk : 1 ≤ kp) (t1 t2 t3 t4 : Nat) : Inv (CL.n (newC kp m t1 t2 t3 t4)) [] 0 :=
 ⟨hk, rfl, fun i h => absurd h (Nat.not_lt_zero i), rfl, Nat.le_refl _, by show (0 : Int) ≤ kp; omega, Int.le_refl _, Int.le_refl _, Tabs.nil _⟩
theorem Inv.commit {c : CL} {ds : List RecV} {m : Nat} (h : Inv c ds m) (y : SubV) (out : Bool) : ∃ m', Inv (c.commit y out) (ds ++ [⟨c.count + 1, y, out⟩]) m' ∧ m ≤ m' ∧ m' ≤ m + 1 ∧ c.horizon ≤ (c.commit y out).horizon ∧ (c.commit y out).count = c.count + 1 ∧ (c.commit y out).keep = c.keep ∧ (c.commit y out).old = c.old := by
 have hsub : ∀ r ∈ ds, r ∈ ds ++ [(⟨c.count + 1, y, out⟩ : RecV)] := fun r hr => List.mem_append_left _ hr
 have ht : Tabs (ds ++ [(⟨c.count + 1, y, out⟩ : RecV)]) c.i1 c.i2 c.i3 c.i4 := ⟨⟨h.tabs.h1.rs, h.tabs.h1.ps, h.tabs.h1.fr.more hsub⟩, ⟨h.tabs.h2.rs, h.tabs.h2.ps, h.tabs.h2.fr.more hsub⟩, ⟨h.tabs.h3.rs, h.tabs.h3.ps, h.tabs.h3.fr.more hsub⟩, ⟨h.tabs.h4.rs, h.tabs.h4.ps, h.tabs.h4.fr.more hsub⟩⟩
 have hn : ∀ i (hi : i < (ds ++ [(⟨c.count + 1, y, out⟩ : RecV)]).length), ((ds ++ [(⟨c.count + 1, y, out⟩ : RecV)])[i]).num = (i : Int) + 1 := fun i hi => by
  rw [List.getElem_append]
  by_cases hl : i < ds.length
  ·rw [dif_pos hl]; exact h.nums i hl
  ·rw [dif_neg hl]
   rw [List.length_append, List.length_singleton] at hi
   have : i = ds.length := by omega
   simp only [List.getElem_singleton]
   rw [h.count, this]
 have hcnt : c.count + 1 = ((ds ++ [(⟨c.count + 1, y, out⟩ : RecV)]).length : Int) := by rw [h.count]; simp
 have hrec : c.recs ++ [(⟨c.count + 1, y, out⟩ : RecV)] = (ds ++ [(⟨c.count + 1, y, out⟩ : RecV)]).drop m := by
  rw [List.drop_append_of_le_length h.le, h.recs]
 unfold CL.commit
 simp only
 by_cases hk : c.keep < ((c.recs ++ [(⟨c.count + 1, y, out⟩ : RecV)]).length : Int)
 ·rw [if_pos hk]
  have hml : m < (ds ++ [(⟨c.count + 1, y, out⟩ : RecV)]).length := by rw [List.length_append]; have := h.le; simp; omega
  have hhd : (c.recs ++ [(⟨c.count + 1, y, out⟩ : RecV)]).headD ⟨0, y, out⟩ = (ds ++ [(⟨c.count + 1, y, out⟩ : RecV)])[m] := by
   rw [hrec, List.headD_eq_head?_getD, List.head?_drop, List.getElem?_eq_getElem hml]; rfl
  have hmem : (c.recs ++ [(⟨c.count + 1, y, out⟩ : RecV)]).headD ⟨0, y, out⟩ ∈ ds ++ [(⟨c.count + 1, y, out⟩ : RecV)] := by rw [hhd]; exact List.getElem_mem hml
  have hnm : ((c.recs ++ [(⟨c.count + 1, y, out⟩ : RecV)]).headD ⟨0, y, out⟩).num = (m : Int) + 1 := by rw [hhd]; exact hn m hml
  have hdrop : (c.recs ++ [(⟨c.count + 1, y, out⟩ : RecV)]).drop 1 = (ds ++ [(⟨c.count + 1, y, out⟩ : RecV)]).drop (m + 1) := by rw [hrec, List.drop_drop]
  have hfew : (((c.recs ++ [(⟨c.count + 1, y, out⟩ : RecV)]).drop 1).length : Int) ≤ c.keep := by
   have := h.few
   rw [List.length_drop, List.length_append, List.length_singleton]; omega
  generalize (c.recs ++ [(⟨c.count + 1, y, out⟩ : RecV)]).headD ⟨0, y, out⟩ = hd at *
  have hS := sumS_ok (c := { c with count := c.count + 1, recs := c.recs ++ [(⟨c.count + 1, y, out⟩ : RecV)] }) hmem ht
  have h0 := h.h0; have h1 := h.hm
  unfold CL.sum
  simp only
  generalize sumS { c with count := c.count + 1, recs := c.recs ++ [(⟨c.count + 1, y, out⟩ : RecV)] } hd = S at *
  by_cases he : S.e = 0
  ·rw [if_pos he]
   exact ⟨m + 1, ⟨h.keep, hcnt, hn, hdrop, hml, hfew, h0, by simp only; omega, hS⟩, by omega, Nat.le_refl _, Int.le_refl _, rfl, rfl, rfl⟩
  ·rw [if_neg he]
   exact ⟨m + 1, ⟨h.keep, hcnt, hn, hdrop, hml, hfew, by simp only; omega, by simp only; omega, Tabs.nil _⟩, by omega, Nat.le_refl _, by simp only; omega, rfl, rfl, rfl⟩
 ·rw [if_neg hk]
  exact ⟨m, ⟨h.keep, hcnt, hn, hrec, by rw [List.length_append]; have := h.le; omega, by simp only; omega, h.h0, h.hm, ht⟩, Nat.le_refl _, by omega, Int.le_refl _, rfl, rfl, rfl⟩

theorem lks_quiet {i1 i3 : List ItV} {i4 : List Q.ItV} {s2 : Int} (h0 : 0 ≤ s2) : ∀ (ws : List Nat) (n : Int), n ≤ s2 → (∀ k ∈ ws, atI i1 k ≤ s2 ∧ atI i3 k ≤ s2 ∧ Q.atI i4 k ≤ s2) → (ws.foldl (lkW i1 i3 i4 s2) (false, n)).1 = false ∧ (ws.foldl (lkW i1 i3 i4 s2) (false, n)).2 ≤ s2
 | [], n, hn, _ => ⟨rfl, hn⟩
 | k :: ws, n, hn, h => by
  obtain ⟨h1, h2, h3⟩ := h k List.mem_cons_self
  rw [List.foldl_cons]
  have e : lkW i1 i3 i4 s2 (false, n) k = (false, max (max n (atI i3 k)) (Q.atI i4 k)) := by
   unfold lkW
   rw [decide_eq_false (by omega)]
   rfl
  rw [e]
  exact lks_quiet h0 ws _ (by omega) fun k' h' => h k' (List.mem_cons_of_mem _ h')
theorem overR_le {its : List ItV} {s2 : Int} : ∀ (rs : List Nat) (n : Int), n ≤ s2 → (∀ k ∈ rs, atI its k ≤ s2) → overR its n rs ≤ s2
 | [], _, hn, _ => hn
 | k :: rs, n, hn, h => overR_le rs (max n (atI its k)) (by have := h k List.mem_cons_self; omega) fun k' h' => h k' (List.mem_cons_of_mem _ h')
theorem overS_le {its : List ItV} {s2 : Int} : ∀ (ss : List SpanV) (n : Int), n ≤ s2 → (∀ s ∈ ss, overI its s.rg ≤ s2) → overS its n ss ≤ s2
 | [], _, hn, _ => hn
 | k :: rs, n, hn, h => overS_le rs (max n (overI its k.rg)) (by have := h k List.mem_cons_self; omega) fun k' h' => h k' (List.mem_cons_of_mem _ h')
theorem recs_quiet {x : SubV} : ∀ (rs : List RecV), (∀ r ∈ rs, r.num ≤ x.s2 ∨ ((x.ws.any fun k => r.s.writes k) = false ∧ x.meets r.s = false ∧ r.s.meets x = false)) → recsL x ⟨false, false, 0, 0⟩ rs = ⟨false, false, 0, 0⟩
 | [], _ => rfl
 | r :: rs, h => by
  unfold recsL
  rw [List.foldl_cons]
  have e : recL x ⟨false, false, 0, 0⟩ r = ⟨false, false, 0, 0⟩ := by
   unfold recL
   rcases h r List.mem_cons_self with h1 | ⟨h1, h2, h3⟩
   ·rw [if_pos h1]
   ·by_cases h4 : r.num ≤ x.s2
    ·rw [if_pos h4]
    ·rw [if_neg h4, h1, h2, h3]; simp
  rw [e]
  exact recs_quiet rs fun r' h' => h r' (List.mem_cons_of_mem _ h')
theorem code_quiet {c : CL} {x : SubV} (h0 : 0 ≤ x.s2) (h1 : ∀ k ∈ x.ws, atI c.i1 k ≤ x.s2 ∧ atI c.i3 k ≤ x.s2 ∧ Q.atI c.i4 k ≤ x.s2) (h2 : ∀ k ∈ x.rs, atI c.i1 k ≤ x.s2 ∧ atI c.i2 k ≤ x.s2) (h3 : ∀ s ∈ x.ss, overI c.i1 s.rg ≤ x.s2 ∧ overI c.i2 s.rg ≤ x.s2)
  (h4 : ∀ r ∈ c.recs, r.num ≤ x.s2 ∨ ((x.ws.any fun k => r.s.writes k) = false ∧ x.meets r.s = false ∧ r.s.meets x = false)) (h5 : c.count ≠ 1099511627776) (h6 : x.s2 ≤ c.count) (h7 : c.horizon ≤ x.s2) :
  codeD c x 0 = 0 ∧ (lookD c x).least = 0 := by
 have hs : sumL c x = ⟨false, false, 0, 0⟩ := by
  unfold sumL lksW overD
  obtain ⟨e1, e2⟩ := lks_quiet (i1 := c.i1) (i3 := c.i3) (i4 := c.i4) h0 x.ws 0 h0 h1
  have e3 := overS_le x.ss _ (overR_le x.rs 0 h0 fun k hk => (h2 k hk).2) fun s hs => (h3 s hs).2
  have e4 := overS_le x.ss _ (overR_le x.rs 0 h0 fun k hk => (h2 k hk).1) fun s hs => (h3 s hs).1
  simp only
  rw [e1, if_pos e2, decide_eq_false (by omega), if_neg (by omega)]
 have hl : lookD c x = ⟨false, false, 0, 0⟩ := by
  unfold lookD
  rw [hs]
  exact recs_quiet _ h4
 unfold codeD
 rw [hl]
 simp only [Int.lt_irrefl, false_and, or_false]
 rw [if_neg (by simp), if_neg h5, if_neg (by omega), if_neg (by omega)]
 simp
theorem From.at_le {ds : List RecV} {f : SubV → List Nat} {its : List ItV} (h : From ds f its) {m : Int} (h0 : 0 ≤ m) (k : Nat) (hk : ∀ r ∈ ds, ∀ kb ∈ f r.s, feq kb k = true → r.num ≤ m) : atI its k ≤ m := by
 rcases atI_char (its := its) k with ⟨x, hx, h1, h2⟩ | h2
 ·obtain ⟨r, hr, h3, kb, hkb, h4, h5⟩ := h x hx
  rw [h2, ← h3]
  obtain ⟨h6, h7⟩ := code_key h1
  exact hk r hr kb hkb (feq_mk h4 h6 (h5.symm.trans h7))
 ·rw [h2]; exact h0
theorem From.over_le {ds : List RecV} {f : SubV → List Nat} {its : List ItV} (h : From ds f its) {m : Int} (h0 : 0 ≤ m) (g : Rg) (hk : ∀ r ∈ ds, ∀ kb ∈ f r.s, hasB g kb = true → r.num ≤ m) : overI its g ≤ m := by
 rcases fold_att g its 0 with h1 | ⟨x, hx, h1, h2⟩
 ·exact Int.le_trans (Int.le_of_eq h1) h0
 ·obtain ⟨r, hr, h3, kb, hkb, h4, h5⟩ := h x hx
  refine Int.le_trans (Int.le_of_eq h2) ?_
  rw [← h3]
  exact hk r hr kb hkb (by rw [← hasB_keyed h4 h5]; exact h1)
theorem FromQ.at_le {ds : List RecV} {its : List Q.ItV} (h : FromQ ds its) {m : Int} (h0 : 0 ≤ m) (k : Nat) (hk : ∀ r ∈ ds, ∀ s ∈ r.s.ss, hasB s.rg k = true → r.num ≤ m) : Q.atI its k ≤ m := by
 rcases Q.at_char its k with h1 | ⟨x, hx, h1, h2⟩
 ·rw [h1]; exact h0
 ·obtain ⟨r, hr, h3, s, hs, h4⟩ := h x hx
  rw [h2, ← h3]
  exact hk r hr s hs (by rw [← h4]; exact h1)
def apartV (a b : SubV) : Bool := (a.ws.all fun k => !(b.reads k) && !(b.writes k)) && !(a.meets b)
theorem free_code {c : CL} {ds : List RecV} {m : Nat} (h : Inv c ds m) {x : SubV} (h5 : c.count ≠ 1099511627776) (h6 : x.s2 ≤ c.count) (h7 : c.horizon ≤ x.s2) (hd : ∀ r ∈ ds, r.num ≤ x.s2 ∨ apartV r.s x = true) : codeD c x 0 = 0 := by
 have h0 : 0 ≤ x.s2 := Int.le_trans h.h0 h7
 have w1 : ∀ r ∈ ds, ∀ kb ∈ r.s.ws, (x.reads kb = true ∨ x.writes kb = true) → r.num ≤ x.s2 := fun r hr kb hkb hx => by
  rcases hd r hr with h1 | h1
  ·exact h1
  ·unfold apartV at h1
   rw [Bool.and_eq_true, List.all_eq_true] at h1
   have := h1.1 kb hkb
   rcases hx with h2 | h2 <;> rw [h2] at this <;> simp at this
 have w2 : ∀ r ∈ ds, r.s.meets x = true → r.num ≤ x.s2 := fun r hr hm => by
  rcases hd r hr with h1 | h1
  ·exact h1
  ·unfold apartV at h1
   rw [hm] at h1; simp at h1
 have rd : ∀ k ∈ x.rs, ∀ kb : Nat, feq kb k = true → x.reads kb = true := fun k hk kb hf => by
  unfold SubV.reads
  rw [Bool.or_eq_true]
  exact .inl (List.any_eq_true.2 ⟨k, hk, hf⟩)
 have rs : ∀ s ∈ x.ss, ∀ kb : Nat, hasB s.rg kb = true → x.reads kb = true := fun s hs kb hf => by
  unfold SubV.reads
  rw [Bool.or_eq_true]
  exact .inr (List.any_eq_true.2 ⟨s, hs, hf⟩)
 have ms : ∀ r : RecV, ∀ k ∈ x.ws, r.s.reads k = true → r.s.meets x = true := fun r k hk hf => List.any_eq_true.2 ⟨k, hk, hf⟩
 refine (code_quiet h0 (fun k hk => ⟨?_, ?_, ?_⟩) (fun k hk => ⟨?_, ?_⟩) (fun s hs => ⟨?_, ?_⟩) (fun r hr => ?_) h5 h6 h7).1
 ·exact h.tabs.h1.fr.at_le h0 k fun r hr kb hkb hf => w1 r hr kb hkb (.inr (List.any_eq_true.2 ⟨k, hk, hf⟩))
 ·exact h.tabs.h3.fr.at_le h0 k fun r hr kb hkb hf => w2 r hr (ms r k hk (by unfold SubV.reads; rw [Bool.or_eq_true]; exact .inl (List.any_eq_true.2 ⟨kb, hkb, by rw [feq_comm']; exact hf⟩)))
 ·exact h.tabs.h4.fr.at_le h0 k fun r hr s hs hf => w2 r hr (ms r k hk (by unfold SubV.reads; rw [Bool.or_eq_true]; exact .inr (List.any_eq_true.2 ⟨s, hs, hf⟩)))
 ·exact h.tabs.h1.fr.at_le h0 k fun r hr kb hkb hf => w1 r hr kb hkb (.inl (rd k hk kb hf))
 ·exact h.tabs.h2.fr.at_le h0 k fun r hr kb hkb hf => w1 r hr kb hkb (.inl (rd k hk kb hf))
 ·exact h.tabs.h1.fr.over_le h0 s.rg fun r hr kb hkb hf => w1 r hr kb hkb (.inl (rs s hs kb hf))
 ·exact h.tabs.h2.fr.over_le h0 s.rg fun r hr kb hkb hf => w1 r hr kb hkb (.inl (rs s hs kb hf))
 ·have hr' : r ∈ ds := by rw [h.recs] at hr; exact List.mem_of_mem_drop hr
  rcases hd r hr' with h1 | h1
  ·exact .inl h1
  ·refine .inr ⟨?_, ?_, ?_⟩
   ·rw [List.any_eq_false]
    intro k hk hw
    obtain ⟨kb, h2, h3⟩ := List.any_eq_true.1 hw
    unfold apartV at h1
    rw [Bool.and_eq_true, List.all_eq_true] at h1
    have := h1.1 kb h2
    have h4 : x.writes kb = true := List.any_eq_true.2 ⟨k, hk, by rw [feq_comm']; exact h3⟩
    rw [h4] at this; simp at this
   ·unfold SubV.meets
    rw [List.any_eq_false]
    intro k hk hw
    unfold apartV at h1
    rw [Bool.and_eq_true, List.all_eq_true] at h1
    have := h1.1 k hk
    rw [hw] at this; simp at this
   ·cases hm : r.s.meets x with
    | false => rfl
    | true => unfold apartV at h1; rw [hm] at h1; simp at h1
theorem chain_code {c : CL} {ds : List RecV} {m : Nat} (h : Inv c ds m) {x : SubV} (h5 : c.count ≠ 1099511627776) (h6 : x.s2 = c.count) : codeD c x 0 = 0 :=
 free_code h h5 (by omega) (by have h1 := h.hz; omega) fun r hr => .inl (by rw [h6]; exact (h.num hr).2)
end Go.Proofs.YtfbachckdadhoaaGreat.C
