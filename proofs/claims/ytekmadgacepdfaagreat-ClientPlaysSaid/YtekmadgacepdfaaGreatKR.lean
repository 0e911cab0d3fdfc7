/- The document's Sort and SameKeys over rows of numbers; the search for NaN. -/
import Derived.Test.YtekmadgacepdfaaGreatQ0
import Derived.Test.YtekmadgacepdfaaGreatKA0
import Derived.Test.YtekmadgacepdfaaGreatR01
import Derived.Test.YtekmadgacepdfaaGreatMR
import Derived.Deep.CutBlock
namespace Go.Proofs.YtekmadgacepdfaaGreat.K
set_option linter.unusedVariables false
open Go.RowKit Fl

theorem sameKeysF (a a' : Option Addr) (c c' n n' : Nat) (xs ys : List Nat) (v : Bool) (w : World) (hn : xs.length = n) (hn' : ys.length = n') (hx : FAt w a xs) (hy : FAt w a' ys) (hv : decide (xs = ys) = v) :
  Calls Tryz.prog 90 #[.slice a n c, .slice a' n' c'] w (Ret (.bool v) w) := by
 by_cases hnn : n = n'
 ·subst hnn
  by_cases h0 : n = 0
  ·subst h0
   have e1 : xs = [] := List.eq_nil_of_length_eq_zero hn
   have e2 : ys = [] := List.eq_nil_of_length_eq_zero hn'
   rw [e1, e2] at hv
   have : v = true := by rw [← hv]; simp
   subst this
   exact (sameKeys_nil a a' c c' w).mono fun e w' ⟨h1, h2⟩ => ⟨h1, by rw [← h2]; exact Below.refl _ _⟩
  ·rcases hx.row with h1 | ⟨b, o, rfl, hb, hc⟩
   ·rw [h1] at hn; simp at hn; omega
   rcases hy.row with h1 | ⟨b', o', rfl, hb', hc'⟩
   ·rw [h1] at hn'; simp at hn'; omega
   have h := sameKeys_row b o b' o' c c' xs ys w (by omega) hx.len hc (fun i hi => hc' i (by omega))
   rw [hn, hv] at h
   exact h.mono fun e w' ⟨h1, q, h2⟩ => ⟨h1, by rw [h2]; exact below_drewN' (Below.refl _ _) _⟩
 ·have : v = false := by
   rw [← hv, decide_eq_false_iff_not]
   intro h
   rw [h] at hn; omega
  subst this
  exact (sameKeys_len a a' n n' c c' w hnn).mono fun e w' ⟨h1, h2⟩ => ⟨h1, by rw [← h2]; exact Below.refl _ _⟩

theorem refOfC (b : Nat) (w : World) :
  Calls Tryz.prog 124 #[.int .u64 (codeOf b)] w fun e w' => e = .returned (.float .f64 (cbits b)) ∧ w = w' := by
 cases h : isNaN b
 ·rw [show codeOf b = kcode (kof b) by simp [codeOf, h], cbits_num h]
  exact refOfCode_any _ w
 ·rw [show codeOf b = 0 by simp [codeOf, h], cbits_nan h]
  exact refOfNan_any w

theorem iStep_lt {X y : CB} (A : List CB) (h : X.code < y.code) : iStep X (A, false) y = (A ++ [X] ++ [y], true) := by
 have h' : X.code ≤ y.code := by omega
 unfold iStep
 rw [decide_eq_true h, decide_eq_true h']; rfl
theorem iStep_done {X y : CB} (A : List CB) : iStep X (A, true) y = (A ++ [y], true) := by
 unfold iStep
 rw [show (decide (X.code < y.code) && !(A, true).2) = false by simp]; rfl
theorem iStep_eq {X y : CB} (A : List CB) (d : Bool) (h : X.code = y.code) : iStep X (A, d) y = (A ++ [y], true) := by
 have h1 : ¬ X.code < y.code := by omega
 have h2 : X.code ≤ y.code := by omega
 unfold iStep
 rw [decide_eq_false h1, decide_eq_true h2]; simp
theorem iStep_gt {X y : CB} (A : List CB) (d : Bool) (h : y.code < X.code) : iStep X (A, d) y = (A ++ [y], d) := by
 have h1 : ¬ X.code < y.code := by omega
 have h2 : ¬ X.code ≤ y.code := by omega
 unfold iStep
 rw [decide_eq_false h1, decide_eq_false h2]; simp
def FSRet (w : World) (l : List CB) (e : Ending) (w' : World) : Prop :=
 ∃ a c, e = .returned (.slice a l.length c) ∧ w'.ownsRow w.heap.size 64 1 (.slice a l.length c) l.length (fCells (bits l)) ∧ Below w.heap.size w w'
theorem rowF {W : World} {base m : Nat} {u : Option Addr} {cu : Nat} {L : List CB} (h : W.ownsRow base 64 1 (.slice u m cu) m (fCells (bits L))) (hm : L.length = m) (w : World) (hb : Below W.heap.size W w) (k : Nat) (hk : k < m) :
  ∃ g, u = some ⟨g, 0, none⟩ ∧ g < W.heap.size ∧ w.cell? ⟨g, k, none⟩ = some (.float .f64 (L[k]?.getD default).b) := by
 rcases h.2 with ⟨h1, h2⟩ | ⟨g, cap, cur, h1, _⟩
 ·omega
 ·cases h1
  have hgl := (h.lt g rfl).2
  have hx : L[k]? = some (L[k]?.getD default) := by rw [List.getElem?_eq_getElem (by omega)]; rfl
  have hcl := h.cells (g := g) rfl k (.float .f64 (L[k]?.getD default).b) (by rw [fCells_bits, List.getElem?_map, hx]; rfl)
  rw [addr0] at hcl
  exact ⟨g, rfl, hgl, (hb.cell (p := ⟨g, k, none⟩) hgl).trans hcl⟩
theorem iF_len (x : CB) (l : List CB) : (iF x l).1.length ≤ l.length + 1 := by
 have key : ∀ (l : List CB) (p : List CB × Bool), (l.foldl (iStep x) p).1.length ≤ p.1.length + l.length + (if p.2 = true then 0 else 1) := by
  intro l
  induction l with
  | nil => intro p; simp
  | cons y l ih =>
   intro p
   have h1 := ih (iStep x p y)
   show (l.foldl (iStep x) (iStep x p y)).1.length ≤ p.1.length + (l.length + 1) + (if p.2 = true then 0 else 1)
   have h2 : (iStep x p y).1.length + (if (iStep x p y).2 = true then 0 else 1) ≤ p.1.length + 1 + (if p.2 = true then 0 else 1) := by
    unfold iStep
    rcases p with ⟨p, b⟩
    cases b
    ·by_cases h : x.code < y.code
     ·have h' : x.code ≤ y.code := by omega
      simp [h, h']
     ·by_cases h' : x.code ≤ y.code
      ·simp [h, h']
      ·simp [h, h']
    ·simp
   omega
 have := key l ([], false)
 simp at this
 unfold iF
 omega
theorem rsort_len (xs : List Nat) : (rsort xs).length ≤ xs.length := by rw [sort_same]; exact (by have := dd_len (sortC (xs.map cb)); rw [sortC_len, List.length_map] at this; exact this)

set_option maxHeartbeats 2000000 in
set_option maxRecDepth 100000 in
theorem refSort_any (a : Option Addr) (c n : Nat) (xs : List Nat) (w : World) (hn : xs.length = n) (h : FAt w a xs) (hl : n ≤ 17592186044410) :
  Calls Tryz.prog 76 #[.slice a n c] w (FSRet w (rsort xs)) := by
 have HN := hid hn; have HS := hid h
 have h00 : Below w.heap.size w (w.alloc (.cells #[] 64)) := by (repeat (first | with_reducible exact Below.refl _ _ | ((with_reducible refine Below.alloc1 ?_ ?_ _); (· first | omega | (simp; done) | (simp; omega))) | (with_reducible refine Below.drew ?_) | (with_reducible refine below_drewN' ?_ _) | ((with_reducible refine Below.setCell1 ?_ ?_ _); (· first | omega | (simp; done) | (simp; omega))) | ((with_reducible refine Below.after (by assumption) ?_ ?_); (· first | omega | (simp; done) | (simp; omega)))))
 have H0 : Hid ((w.alloc (.cells #[] 64)).ownsRow w.heap.size 64 1 (.slice (some ⟨w.heap.size, 0, none⟩) 0 0) 0 (fCells (bits (rsort (xs.take 0))))) :=
  hid ⟨rfl, .inr ⟨w.heap.size, 0, #[], rfl, Nat.le_refl _, heap_alloc_new w _, Nat.le_refl _, by unfold maxLen; omega, rfl, rfl⟩⟩
 have HRL := hid fun i => rsort_len (xs.take i)
 clear hn h
 go_enter Tryz.func76, Tryz.ntmps76
 go_wp2
 go_loopw [4, 3] (fun iv uv wr => ∃ (i : Nat) (u : Option Addr) (cu : Nat), i ≤ n ∧ iv = .int .i64 i ∧ uv = .slice u (rsort (xs.take i)).length cu ∧ Hid (wr.ownsRow w.heap.size 64 1 (.slice u (rsort (xs.take i)).length cu) (rsort (xs.take i)).length (fCells (bits (rsort (xs.take i))))) ∧ Below w.heap.size w wr) (fun iv _ _ => n - (intOf iv).toNat)
 case atStart => exact ⟨0, some ⟨w.heap.size, 0, none⟩, 0, Nat.zero_le _, rfl, rfl, H0, h00⟩
 case round =>
  obtain ⟨i, u, cu, hin, rfl, rfl, HO, hb⟩ := hrel
  obtain ⟨wo, rfl⟩ : ∃ x, x = wr := ⟨_, rfl⟩
  have hz := hb.size
  by_cases hlt : i < n
  ·have hlt' : (i : Int) < (n : Int) := by omega
   have hil : i < xs.length := by rw [HN.out]; exact hlt
   have hx := fl_some hil
   have l1 := HS.out.lt i hil
   rcases HS.out.row with h0 | ⟨g, o, rfl, hg, hcs⟩
   ·rw [h0] at hil; simp at hil
   have hd0 := hcs i hil
   have hrl := HRL.out i
   rw [List.length_take, HN.out] at hrl
   have HR : Hid (rsort (xs.take (i + 1)) = iIns (rsort (xs.take i)) (cb (xs[i]?.getD 0))) := hid (rsort_take hx)
   generalize xs[i]?.getD 0 = x at *
   generalize rsort (xs.take i) = out at *
   obtain ⟨m, hm⟩ : ∃ m, out.length = m := ⟨_, rfl⟩
   rw [hm] at HO hrl ⊢
   have HM := hid hm
   have HX : Hid (∀ W, Below w.heap.size w W → W.cell? ⟨g, o + i, none⟩ = some (.float .f64 x)) := hid fun W hW => (hW.cell (p := ⟨g, o + i, none⟩) hg).trans hd0
   have HCo := hid fun (W : World) (hW : Below wo.heap.size wo W) (k : Nat) (hk : k < m) => rowF HO.out HM.out W hW k hk
   have HCd := fun W => refCode_any x l1 W
   have HOf := fun W => refOfC x W
   rw [← cb_code x] at HCd HOf
   rw [show cbits x = (cb x).b from rfl] at HOf
   have h1A : Below wo.heap.size wo (wo.alloc (.cells #[] 64)) := by (repeat (first | with_reducible exact Below.refl _ _ | ((with_reducible refine Below.alloc1 ?_ ?_ _); (· first | omega | (simp; done) | (simp; omega))) | (with_reducible refine Below.drew ?_) | (with_reducible refine below_drewN' ?_ _) | ((with_reducible refine Below.setCell1 ?_ ?_ _); (· first | omega | (simp; done) | (simp; omega))) | ((with_reducible refine Below.after (by assumption) ?_ ?_); (· first | omega | (simp; done) | (simp; omega)))))
   have H1 : Hid ((wo.alloc (.cells #[] 64)).ownsRow wo.heap.size 64 1 (.slice (some ⟨wo.heap.size, 0, none⟩) 0 0) 0 (fCells (bits []))) :=
    hid ⟨rfl, .inr ⟨wo.heap.size, 0, #[], rfl, Nat.le_refl _, heap_alloc_new wo _, Nat.le_refl _, by unfold maxLen; omega, rfl, rfl⟩⟩
   have hxc : (cb x).code = codeOf x := cb_code x
   generalize hcbx : cb x = X at *
   have HXC := hid hxc
   clear hcs hd0 hx hm hil hcbx hxc
   go_wp2
   go_loopw [7, 5, 6] (fun kv av dv w3 => ∃ (k : Nat) (v : Option Addr) (cv : Nat), k ≤ m ∧ kv = .int .i64 k ∧ av = .slice v (iF X (out.take k)).1.length cv ∧ dv = .bool (iF X (out.take k)).2 ∧ Hid (w3.ownsRow wo.heap.size 64 1 (.slice v (iF X (out.take k)).1.length cv) (iF X (out.take k)).1.length (fCells (bits (iF X (out.take k)).1))) ∧ Below wo.heap.size wo w3) (fun kv _ _ _ => m - (intOf kv).toNat)
   case atStart => exact ⟨0, some ⟨wo.heap.size, 0, none⟩, 0, Nat.zero_le _, rfl, rfl, rfl, H1, h1A⟩
   case round =>
    obtain ⟨k, v, cv, hkm, rfl, rfl, rfl, HA, hb3⟩ := hrel
    have hz3 := hb3.size
    have hbw := hb.trans (hb3.mono hz)
    have e0 := HX.out wr hbw
    have hal := iF_len X (out.take k)
    rw [List.length_take, HM.out] at hal
    have hgw : g < wr.heap.size := Nat.lt_of_lt_of_le hg hbw.size
    by_cases hlk : k < m
    ·have hlk' : (k : Int) < (m : Int) := by omega
     obtain ⟨g', rfl, hg', e1⟩ := HCo.out wr hb3 k hlk
     have hxk : out[k]? = some (out[k]?.getD default) := by rw [List.getElem?_eq_getElem (by rw [HM.out]; omega)]; rfl
     have hst := iF_take (x := X) hxk
     generalize out[k]?.getD default = y at *
     obtain ⟨A, d, hp⟩ : ∃ A d, iF X (out.take k) = (A, d) := ⟨_, _, rfl⟩
     rw [hp] at HA hst hal ⊢
     simp only at HA hst hal ⊢
     obtain ⟨na, hna⟩ : ∃ na, A.length = na := ⟨_, rfl⟩
     rw [hna] at HA hal ⊢
     have hna2 : na ≤ 17592186044412 := by omega
     have hgl : g' < wr.heap.size := by omega
     clear hp hxk hal
     have HCmp := fun W => refCmp01_any x y.b l1 y.lt W
     have hyc : codeOf y.b = y.code := rfl
     rw [hyc, ← HXC.out] at HCmp
     have oneY : ∀ (W : World) (v' : Option Addr) (cv' : Nat) (B : List CB) (nb : Nat), B.length = nb → nb ≤ 17592186044414 → Below wr.heap.size wr W → W.ownsRow wo.heap.size 64 1 (.slice v' nb cv') nb (fCells (bits B)) →
       ∃ a' c' w', (∀ ty, (Builtin.append_ #[32, 32] ty #[.slice v' nb cv', .slice (some ⟨W.heap.size, 0, none⟩) 1 1]).run Tryz.prog (W.alloc (.cells #[.float .f64 y.b] 64)) = .ok (.slice a' (nb + 1) c') w') ∧
        Hid (w'.ownsRow wo.heap.size 64 1 (.slice a' (nb + 1) c') (nb + 1) (fCells (bits (B ++ [y])))) ∧ Below wo.heap.size wo w' := fun W v' cv' B nb hB hnb hW hown => by
      have hzW := hW.size
      obtain ⟨a', c', w', hr, ho', hb'⟩ := appF (xs := bits B) y.b (by rw [bits_len]; exact hB) hown (by omega) hnb
      exact ⟨a', c', w', hr, hid (by rw [show bits (B ++ [y]) = bits B ++ [y.b] by simp [bits]]; exact ho'), hb3.trans ((hW.mono hz3).trans hb')⟩
     have HAk : ∀ W, Below wr.heap.size wr W → W.ownsRow wo.heap.size 64 1 (.slice v na cv) na (fCells (bits A)) := fun W hW => HA.out.kept (grown_of_below hW) (by cases (Value.slice v na cv).ownBlock <;> simp)
     have hcases : (X.code < y.code ∧ cmpI X.code y.code = -1) ∨ (X.code = y.code ∧ cmpI X.code y.code = 0) ∨ (y.code < X.code ∧ cmpI X.code y.code = 1) := by
      unfold cmpI
      rcases Int.lt_trichotomy X.code y.code with h | h | h
      ·exact .inl ⟨h, if_pos h⟩
      ·exact .inr (.inl ⟨h, by rw [if_neg (by omega), if_neg (by omega)]⟩)
      ·exact .inr (.inr ⟨h, by rw [if_neg (by omega), if_pos h]⟩)
     rcases hcases with ⟨hc1, hc2⟩ | ⟨hc1, hc2⟩ | ⟨hc1, hc2⟩
     ·rw [hc2] at HCmp
      cases d
      ·have HS3 : Hid (iF X (out.take (k + 1)) = (A ++ [X] ++ [y], true)) := hid (by rw [hst]; exact iStep_lt A hc1)
       clear hst oneY
       go_wp2
       (refine wp_region_ext (by kernel_rfl) (by kernel_rfl) ?_; (repeat (go_big_quiet_step (first | (go_at_call 123; with_reducible exact Calls.ext_same (HCmp _))))); refine wpQuiet_nil ?_; rintro w4 ⟨x4, hx4⟩; have hb4 := x4.b; rw [← hx4] at hb4; clear hx4 x4; obtain ⟨hc4, hf4⟩ := bcell hb4; (try simp only [qD, qE, qF] at hc4 hf4); have hz4 := hb4.size; (try simp at hz4); (try have hy4_0 : w.heap.size < w4.heap.size := by omega); (try have hy4_1 : w.heap.size + 1 < w4.heap.size := by omega); (try have hy4_2 : w.heap.size + 2 < w4.heap.size := by omega); (try have hy4_3 : w.heap.size + 3 < w4.heap.size := by omega); (try have hx4_0 : w.heap.size ≤ w4.heap.size := by omega); (try have hx4_1 : w.heap.size + 1 ≤ w4.heap.size := by omega); (try have hx4_2 : w.heap.size + 2 ≤ w4.heap.size := by omega); (try have hu4_wr_0 : wr.heap.size < w4.heap.size := by omega); (try have hu4_wr_1 : wr.heap.size + 1 < w4.heap.size := by omega))
       go_upto_region 12 with fail
       have hbq : Below wr.heap.size wr w4 := by (repeat (first | with_reducible exact Below.refl _ _ | ((with_reducible refine Below.alloc1 ?_ ?_ _); (· first | omega | (simp; done) | (simp; omega))) | (with_reducible refine Below.drew ?_) | (with_reducible refine below_drewN' ?_ _) | ((with_reducible refine Below.setCell1 ?_ ?_ _); (· first | omega | (simp; done) | (simp; omega))) | ((with_reducible refine Below.after (by assumption) ?_ ?_); (· first | omega | (simp; done) | (simp; omega)))))
       have e0' := (hbq.cell (p := ⟨g, _, none⟩) hgw).trans e0
       have e1' := (hbq.cell (p := ⟨g', _, none⟩) hgl).trans e1
       have hzq := hbq.size
       obtain ⟨a', c', w', hr, ho', hb'⟩ := appF (xs := bits A) X.b (by rw [bits_len]; exact hna) (HAk w4 hbq) (by omega) (by omega)
       have e1'' := (hb'.cell (p := ⟨g', _, none⟩) hg').trans e1'
       have hzq' := hb'.size
       obtain ⟨a2, c2, w2', hr2, ho2, hb2⟩ := appF (xs := bits A ++ [X.b]) y.b (by rw [List.length_append, bits_len, hna]; rfl) ho' (by omega) (by omega)
       have HO' : Hid (w2'.ownsRow wo.heap.size 64 1 (.slice a2 (na + 1 + 1) c2) (na + 1 + 1) (fCells (bits (A ++ [X] ++ [y])))) := hid (by rw [show bits (A ++ [X] ++ [y]) = bits A ++ [X.b] ++ [y.b] by simp [bits]]; exact ho2)
       have Hb5 := hid (hb3.trans ((hbq.mono hz3).trans (hb'.trans hb2)))
       clear ho' ho2 HAk
       go_upto_region 13 with (first | (go_at_call 125; (with_reducible refine (HCd _).mono ?_); rintro e w' ⟨rfl, rfl⟩) | (go_at_call 124; (with_reducible refine (HOf _).mono ?_); rintro e w' ⟨rfl, rfl⟩) | (at_builtin; refine Lib.wpList_append_run _ rfl _ _ _ _ rfl _ _ rfl rfl _ _ (hr _) ?_))
       go_wp2_with (at_builtin; refine Lib.wpList_append_run _ rfl _ _ _ _ rfl _ _ rfl rfl _ _ (hr2 _) ?_)
       go_roundw
       case rel => exact ⟨k + 1, a2, c2, by omega, by go_num, by rw [HS3.out]; simp [hna], by rw [HS3.out], hid (by rw [HS3.out]; simp only [List.length_append, List.length_cons, List.length_nil, hna]; exact HO'.out), Hb5.out⟩
       case measure => simp [intOf]; omega
      ·have HS3 : Hid (iF X (out.take (k + 1)) = (A ++ [y], true)) := hid (by rw [hst]; exact iStep_done A)
       clear hst
       go_wp2
       (refine wp_region_ext (by kernel_rfl) (by kernel_rfl) ?_; (repeat (go_big_quiet_step (first | (go_at_call 123; with_reducible exact Calls.ext_same (HCmp _))))); refine wpQuiet_nil ?_; rintro w4 ⟨x4, hx4⟩; have hb4 := x4.b; rw [← hx4] at hb4; clear hx4 x4; obtain ⟨hc4, hf4⟩ := bcell hb4; (try simp only [qD, qE, qF] at hc4 hf4); have hz4 := hb4.size; (try simp at hz4); (try have hy4_0 : w.heap.size < w4.heap.size := by omega); (try have hy4_1 : w.heap.size + 1 < w4.heap.size := by omega); (try have hy4_2 : w.heap.size + 2 < w4.heap.size := by omega); (try have hy4_3 : w.heap.size + 3 < w4.heap.size := by omega); (try have hx4_0 : w.heap.size ≤ w4.heap.size := by omega); (try have hx4_1 : w.heap.size + 1 ≤ w4.heap.size := by omega); (try have hx4_2 : w.heap.size + 2 ≤ w4.heap.size := by omega); (try have hu4_wr_0 : wr.heap.size < w4.heap.size := by omega); (try have hu4_wr_1 : wr.heap.size + 1 < w4.heap.size := by omega))
       have hbq : Below wr.heap.size wr w4 := by (repeat (first | with_reducible exact Below.refl _ _ | ((with_reducible refine Below.alloc1 ?_ ?_ _); (· first | omega | (simp; done) | (simp; omega))) | (with_reducible refine Below.drew ?_) | (with_reducible refine below_drewN' ?_ _) | ((with_reducible refine Below.setCell1 ?_ ?_ _); (· first | omega | (simp; done) | (simp; omega))) | ((with_reducible refine Below.after (by assumption) ?_ ?_); (· first | omega | (simp; done) | (simp; omega)))))
       have e1' := (hbq.cell (p := ⟨g', _, none⟩) hgl).trans e1
       obtain ⟨a', c', w', hr, HO', hb'⟩ := oneY w4 v cv A na hna (by omega) hbq (HAk w4 hbq)
       clear oneY HAk
       go_wp2_with (at_builtin; refine Lib.wpList_append_run _ rfl _ _ _ _ rfl _ _ rfl rfl _ _ (hr _) ?_)
       go_roundw
       case rel => exact ⟨k + 1, a', c', by omega, by go_num, by rw [HS3.out]; simp [hna], by rw [HS3.out], hid (by rw [HS3.out]; simp only [List.length_append, List.length_cons, List.length_nil, hna]; exact HO'.out), hb'⟩
       case measure => simp [intOf]; omega
     ·rw [hc2] at HCmp
      cases d
      all_goals
       have HS3 : Hid (iF X (out.take (k + 1)) = (A ++ [y], true)) := hid (by rw [hst]; exact iStep_eq A _ hc1)
       clear hst
       go_wp2
       (refine wp_region_ext (by kernel_rfl) (by kernel_rfl) ?_; (repeat (go_big_quiet_step (first | (go_at_call 123; with_reducible exact Calls.ext_same (HCmp _))))); refine wpQuiet_nil ?_; rintro w4 ⟨x4, hx4⟩; have hb4 := x4.b; rw [← hx4] at hb4; clear hx4 x4; obtain ⟨hc4, hf4⟩ := bcell hb4; (try simp only [qD, qE, qF] at hc4 hf4); have hz4 := hb4.size; (try simp at hz4); (try have hy4_0 : w.heap.size < w4.heap.size := by omega); (try have hy4_1 : w.heap.size + 1 < w4.heap.size := by omega); (try have hy4_2 : w.heap.size + 2 < w4.heap.size := by omega); (try have hy4_3 : w.heap.size + 3 < w4.heap.size := by omega); (try have hx4_0 : w.heap.size ≤ w4.heap.size := by omega); (try have hx4_1 : w.heap.size + 1 ≤ w4.heap.size := by omega); (try have hx4_2 : w.heap.size + 2 ≤ w4.heap.size := by omega); (try have hu4_wr_0 : wr.heap.size < w4.heap.size := by omega); (try have hu4_wr_1 : wr.heap.size + 1 < w4.heap.size := by omega))
       have hbq : Below wr.heap.size wr w4 := by (repeat (first | with_reducible exact Below.refl _ _ | ((with_reducible refine Below.alloc1 ?_ ?_ _); (· first | omega | (simp; done) | (simp; omega))) | (with_reducible refine Below.drew ?_) | (with_reducible refine below_drewN' ?_ _) | ((with_reducible refine Below.setCell1 ?_ ?_ _); (· first | omega | (simp; done) | (simp; omega))) | ((with_reducible refine Below.after (by assumption) ?_ ?_); (· first | omega | (simp; done) | (simp; omega)))))
       have e1' := (hbq.cell (p := ⟨g', _, none⟩) hgl).trans e1
       obtain ⟨a', c', w', hr, HO', hb'⟩ := oneY w4 v cv A na hna (by omega) hbq (HAk w4 hbq)
       clear oneY HAk
       go_wp2_with (at_builtin; refine Lib.wpList_append_run _ rfl _ _ _ _ rfl _ _ rfl rfl _ _ (hr _) ?_)
       go_roundw
       case rel => exact ⟨k + 1, a', c', by omega, by go_num, by rw [HS3.out]; simp [hna], by rw [HS3.out], hid (by rw [HS3.out]; simp only [List.length_append, List.length_cons, List.length_nil, hna]; exact HO'.out), hb'⟩
       case measure => simp [intOf]; omega
     ·rw [hc2] at HCmp
      cases d
      ·have HS3 : Hid (iF X (out.take (k + 1)) = (A ++ [y], false)) := hid (by rw [hst]; exact iStep_gt A _ hc1)
       clear hst
       go_wp2
       (refine wp_region_ext (by kernel_rfl) (by kernel_rfl) ?_; (repeat (go_big_quiet_step (first | (go_at_call 123; with_reducible exact Calls.ext_same (HCmp _))))); refine wpQuiet_nil ?_; rintro w4 ⟨x4, hx4⟩; have hb4 := x4.b; rw [← hx4] at hb4; clear hx4 x4; obtain ⟨hc4, hf4⟩ := bcell hb4; (try simp only [qD, qE, qF] at hc4 hf4); have hz4 := hb4.size; (try simp at hz4); (try have hy4_0 : w.heap.size < w4.heap.size := by omega); (try have hy4_1 : w.heap.size + 1 < w4.heap.size := by omega); (try have hy4_2 : w.heap.size + 2 < w4.heap.size := by omega); (try have hy4_3 : w.heap.size + 3 < w4.heap.size := by omega); (try have hx4_0 : w.heap.size ≤ w4.heap.size := by omega); (try have hx4_1 : w.heap.size + 1 ≤ w4.heap.size := by omega); (try have hx4_2 : w.heap.size + 2 ≤ w4.heap.size := by omega); (try have hu4_wr_0 : wr.heap.size < w4.heap.size := by omega); (try have hu4_wr_1 : wr.heap.size + 1 < w4.heap.size := by omega))
       have hbq : Below wr.heap.size wr w4 := by (repeat (first | with_reducible exact Below.refl _ _ | ((with_reducible refine Below.alloc1 ?_ ?_ _); (· first | omega | (simp; done) | (simp; omega))) | (with_reducible refine Below.drew ?_) | (with_reducible refine below_drewN' ?_ _) | ((with_reducible refine Below.setCell1 ?_ ?_ _); (· first | omega | (simp; done) | (simp; omega))) | ((with_reducible refine Below.after (by assumption) ?_ ?_); (· first | omega | (simp; done) | (simp; omega)))))
       have e1' := (hbq.cell (p := ⟨g', _, none⟩) hgl).trans e1
       obtain ⟨a', c', w', hr, HO', hb'⟩ := oneY w4 v cv A na hna (by omega) hbq (HAk w4 hbq)
       clear oneY HAk
       go_wp2_with (at_builtin; refine Lib.wpList_append_run _ rfl _ _ _ _ rfl _ _ rfl rfl _ _ (hr _) ?_)
       go_roundw
       case rel => exact ⟨k + 1, a', c', by omega, by go_num, by rw [HS3.out]; simp [hna], by rw [HS3.out], hid (by rw [HS3.out]; simp only [List.length_append, List.length_cons, List.length_nil, hna]; exact HO'.out), hb'⟩
       case measure => simp [intOf]; omega
      ·have HS3 : Hid (iF X (out.take (k + 1)) = (A ++ [y], true)) := hid (by rw [hst]; exact iStep_gt A _ hc1)
       clear hst
       go_wp2
       (refine wp_region_ext (by kernel_rfl) (by kernel_rfl) ?_; (repeat (go_big_quiet_step (first | (go_at_call 123; with_reducible exact Calls.ext_same (HCmp _))))); refine wpQuiet_nil ?_; rintro w4 ⟨x4, hx4⟩; have hb4 := x4.b; rw [← hx4] at hb4; clear hx4 x4; obtain ⟨hc4, hf4⟩ := bcell hb4; (try simp only [qD, qE, qF] at hc4 hf4); have hz4 := hb4.size; (try simp at hz4); (try have hy4_0 : w.heap.size < w4.heap.size := by omega); (try have hy4_1 : w.heap.size + 1 < w4.heap.size := by omega); (try have hy4_2 : w.heap.size + 2 < w4.heap.size := by omega); (try have hy4_3 : w.heap.size + 3 < w4.heap.size := by omega); (try have hx4_0 : w.heap.size ≤ w4.heap.size := by omega); (try have hx4_1 : w.heap.size + 1 ≤ w4.heap.size := by omega); (try have hx4_2 : w.heap.size + 2 ≤ w4.heap.size := by omega); (try have hu4_wr_0 : wr.heap.size < w4.heap.size := by omega); (try have hu4_wr_1 : wr.heap.size + 1 < w4.heap.size := by omega))
       have hbq : Below wr.heap.size wr w4 := by (repeat (first | with_reducible exact Below.refl _ _ | ((with_reducible refine Below.alloc1 ?_ ?_ _); (· first | omega | (simp; done) | (simp; omega))) | (with_reducible refine Below.drew ?_) | (with_reducible refine below_drewN' ?_ _) | ((with_reducible refine Below.setCell1 ?_ ?_ _); (· first | omega | (simp; done) | (simp; omega))) | ((with_reducible refine Below.after (by assumption) ?_ ?_); (· first | omega | (simp; done) | (simp; omega)))))
       have e1' := (hbq.cell (p := ⟨g', _, none⟩) hgl).trans e1
       obtain ⟨a', c', w', hr, HO', hb'⟩ := oneY w4 v cv A na hna (by omega) hbq (HAk w4 hbq)
       clear oneY HAk
       go_wp2_with (at_builtin; refine Lib.wpList_append_run _ rfl _ _ _ _ rfl _ _ rfl rfl _ _ (hr _) ?_)
       go_roundw
       case rel => exact ⟨k + 1, a', c', by omega, by go_num, by rw [HS3.out]; simp [hna], by rw [HS3.out], hid (by rw [HS3.out]; simp only [List.length_append, List.length_cons, List.length_nil, hna]; exact HO'.out), hb'⟩
       case measure => simp [intOf]; omega
    ·obtain rfl : k = m := by omega
     have htk : out.take k = out := by rw [← HM.out, List.take_length]
     rw [htk] at HA hal ⊢
     have HI : Hid (iIns out X = if (iF X out).2 = true then (iF X out).1 else (iF X out).1 ++ [X]) := hid rfl
     obtain ⟨A, d, hp⟩ : ∃ A d, iF X out = (A, d) := ⟨_, _, rfl⟩
     rw [hp] at HA HI hal ⊢
     simp only at HA HI hal ⊢
     obtain ⟨na, hna⟩ : ∃ na, A.length = na := ⟨_, rfl⟩
     rw [hna] at HA hal ⊢
     clear hp htk
     cases d
     ·have HI2 : Hid (rsort (xs.take (i + 1)) = A ++ [X]) := hid (by rw [HR.out, HI.out]; rfl)
      obtain ⟨a', c', w', hr, ho', hb'⟩ := appF (xs := bits A) X.b (by rw [bits_len]; exact hna) HA.out hz3 (by omega)
      have HO' : Hid (w'.ownsRow w.heap.size 64 1 (.slice a' (na + 1) c') (na + 1) (fCells (bits (A ++ [X])))) := hid (by rw [show bits (A ++ [X]) = bits A ++ [X.b] by simp [bits]]; exact own_le ho' hz)
      have Hb5 := hid (hb.trans ((hb3.trans hb').mono hz))
      have Hl : Hid ((A ++ [X]).length = na + 1) := hid (by rw [List.length_append, hna]; rfl)
      clear ho'
      go_wp2_with (first | (go_at_call 125; (with_reducible refine (HCd _).mono ?_); rintro e w' ⟨rfl, rfl⟩) | (go_at_call 124; (with_reducible refine (HOf _).mono ?_); rintro e w' ⟨rfl, rfl⟩) | (at_builtin; refine Lib.wpList_append_run _ rfl _ _ _ _ rfl _ _ rfl rfl _ _ (hr _) ?_))
      go_roundw
      case rel => exact ⟨i + 1, a', c', by omega, by go_num, by rw [HI2.out, Hl.out], hid (by rw [HI2.out, Hl.out]; exact HO'.out), Hb5.out⟩
      case measure => simp [intOf]; omega
     ·have HI2 : Hid (rsort (xs.take (i + 1)) = A) := hid (by rw [HR.out, HI.out]; rfl)
      have HO' := hid (own_le HA.out hz)
      have Hb5 := hid (hb.trans (hb3.mono hz))
      go_wp2_with fail
      go_roundw
      case rel => exact ⟨i + 1, v, cv, by omega, by go_num, by rw [HI2.out, hna], hid (by rw [HI2.out, hna]; exact HO'.out), Hb5.out⟩
      case measure => simp [intOf]; omega
  ·obtain rfl : i = n := by omega
   have Hfin : Hid (∀ W, Below wo.heap.size wo W → FSRet w (rsort xs) (.returned (.slice u (rsort (xs.take i)).length cu)) W) := hid fun W h1 => by
    have hown := HO.out
    rw [show xs.take i = xs by rw [← HN.out, List.take_length]] at hown ⊢
    exact ⟨u, cu, rfl, hown.kept (grown_of_below h1) (by cases (Value.slice u (rsort xs).length cu).ownBlock <;> simp), hb.trans (h1.mono hz)⟩
   go_wp2
   go_ret
   exact Hfin.out _ (by (repeat (first | with_reducible exact Below.refl _ _ | ((with_reducible refine Below.alloc1 ?_ ?_ _); (· first | omega | (simp; done) | (simp; omega))) | (with_reducible refine Below.drew ?_) | (with_reducible refine below_drewN' ?_ _) | ((with_reducible refine Below.setCell1 ?_ ?_ _); (· first | omega | (simp; done) | (simp; omega))) | ((with_reducible refine Below.after (by assumption) ?_ ?_); (· first | omega | (simp; done) | (simp; omega))))))
end Go.Proofs.YtekmadgacepdfaaGreat.K
