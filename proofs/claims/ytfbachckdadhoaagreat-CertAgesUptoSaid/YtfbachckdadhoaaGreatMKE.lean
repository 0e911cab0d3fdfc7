/- Several texts as one: R01 KR KE KG. -/
import Derived.Test.YtfbachckdadhoaaGreatMFL
import Derived.Test.YtfbachckdadhoaaGreatC0
import Derived.Test.YtfbachckdadhoaaGreatMNK
import Derived.Test.YtfbachckdadhoaaGreatMR
import Derived.Deep.CutBlock
import Derived.Test.YtfbachckdadhoaaGreatMKD
namespace Go.Proofs.YtfbachckdadhoaaGreat
set_option linter.unusedVariables false
open Go.RowKit Fl

theorem refCmp01_any (x y : Nat) (hx : x < 2 ^ 64) (hy : y < 2 ^ 64) (w : World) :
  Calls Tryz.prog 89 #[.float .f64 x, .float .f64 y] w fun e w' => e = .returned (.int .i64 (cmpI (codeOf x) (codeOf y))) ∧ w = w' := by
 have H1 := fun W => refCode_any x hx W
 have H2 := fun W => refCode_any y hy W
 unfold cmpI
 generalize codeOf x = a at *
 generalize codeOf y = b at *
 by_cases h1 : a < b
 ·rw [if_pos h1]
  have d1 : decide (a < b) = true := by simp [h1]
  go_enter Tryz.func89, Tryz.ntmps89
  go_wp2_with (first | (go_at_call 86; (with_reducible refine (H1 _).mono ?_); rintro e w' ⟨rfl, rfl⟩) | (go_at_call 86; (with_reducible refine (H2 _).mono ?_); rintro e w' ⟨rfl, rfl⟩))
  go_ret
  exact ⟨rfl, rfl⟩
 ·rw [if_neg h1]
  have d1 : decide (a < b) = false := by simp; omega
  by_cases h2 : b < a
  ·rw [if_pos h2]
   go_enter Tryz.func89, Tryz.ntmps89
   go_wp2_with (first | (go_at_call 86; (with_reducible refine (H1 _).mono ?_); rintro e w' ⟨rfl, rfl⟩) | (go_at_call 86; (with_reducible refine (H2 _).mono ?_); rintro e w' ⟨rfl, rfl⟩))
   go_ret
   exact ⟨rfl, rfl⟩
  ·rw [if_neg h2]
   have d2 : ¬ (a > b) := by omega
   go_enter Tryz.func89, Tryz.ntmps89
   go_wp2_with (first | (go_at_call 86; (with_reducible refine (H1 _).mono ?_); rintro e w' ⟨rfl, rfl⟩) | (go_at_call 86; (with_reducible refine (H2 _).mono ?_); rintro e w' ⟨rfl, rfl⟩))
   go_ret
   exact ⟨rfl, rfl⟩
end Go.Proofs.YtfbachckdadhoaaGreat
namespace Go.Proofs.YtfbachckdadhoaaGreat.K
set_option linter.unusedVariables false
open Go.RowKit Fl

theorem sameKeysF (a a' : Option Addr) (c c' n n' : Nat) (xs ys : List Nat) (v : Bool) (w : World) (hn : xs.length = n) (hn' : ys.length = n') (hx : FAt w a xs) (hy : FAt w a' ys) (hv : decide (xs = ys) = v) :
  Calls Tryz.prog 37 #[.slice a n c, .slice a' n' c'] w (Ret (.bool v) w) := by
 by_cases hnn : n = n'
 ·subst hnn
  by_cases h0 : n = 0
  ·subst h0
   have e1 : xs = [] := List.eq_nil_of_length_eq_zero hn
   have e2 : ys = [] := List.eq_nil_of_length_eq_zero hn'
   rw [e1, e2] at hv
   have : v = true := by rw [← hv]; simp
   subst this
   exact (sameKeys_nil a a' c c' w).mono fun e w' ⟨h1, h2⟩ => ⟨h1, by rw [← h2]; exact Below.refl _ _⟩
  ·rcases hx.row with h1 | ⟨b, o, rfl, hb, hc⟩
   ·rw [h1] at hn; simp at hn; omega
   rcases hy.row with h1 | ⟨b', o', rfl, hb', hc'⟩
   ·rw [h1] at hn'; simp at hn'; omega
   have h := sameKeys_row b o b' o' c c' xs ys w (by omega) hx.len hc (fun i hi => hc' i (by omega))
   rw [hn, hv] at h
   exact h.mono fun e w' ⟨h1, q, h2⟩ => ⟨h1, by rw [h2]; exact below_drewN' (Below.refl _ _) _⟩
 ·have : v = false := by
   rw [← hv, decide_eq_false_iff_not]
   intro h
   rw [h] at hn; omega
  subst this
  exact (sameKeys_len a a' n n' c c' w hnn).mono fun e w' ⟨h1, h2⟩ => ⟨h1, by rw [← h2]; exact Below.refl _ _⟩

theorem refOfC (b : Nat) (w : World) :
  Calls Tryz.prog 90 #[.int .u64 (codeOf b)] w fun e w' => e = .returned (.float .f64 (cbits b)) ∧ w = w' := by
 cases h : isNaN b
 ·rw [show codeOf b = kcode (kof b) by simp [codeOf, h], cbits_num h]
  exact refOfCode_any _ w
 ·rw [show codeOf b = 0 by simp [codeOf, h], cbits_nan h]
  exact refOfNan_any w

theorem iStep_lt {X y : CB} (A : List CB) (h : X.code < y.code) : iStep X (A, false) y = (A ++ [X] ++ [y], true) := by
 have h' : X.code ≤ y.code := by omega
 unfold iStep
 rw [decide_eq_true h, decide_eq_true h']; rfl
theorem iStep_done {X y : CB} (A : List CB) : iStep X (A, true) y = (A ++ [y], true) := by
 unfold iStep
 rw [show (decide (X.code < y.code) && !(A, true).2) = false by simp]; rfl
theorem iStep_eq {X y : CB} (A : List CB) (d : Bool) (h : X.code = y.code) : iStep X (A, d) y = (A ++ [y], true) := by
 have h1 : ¬ X.code < y.code := by omega
 have h2 : X.code ≤ y.code := by omega
 unfold iStep
 rw [decide_eq_false h1, decide_eq_true h2]; simp
theorem iStep_gt {X y : CB} (A : List CB) (d : Bool) (h : y.code < X.code) : iStep X (A, d) y = (A ++ [y], d) := by
 have h1 : ¬ X.code < y.code := by omega
 have h2 : ¬ X.code ≤ y.code := by omega
 unfold iStep
 rw [decide_eq_false h1, decide_eq_false h2]; simp
def FSRet (w : World) (l : List CB) (e : Ending) (w' : World) : Prop :=
 ∃ a c, e = .returned (.slice a l.length c) ∧ w'.ownsRow w.heap.size 45 1 (.slice a l.length c) l.length (fCells (bits l)) ∧ Below w.heap.size w w'
theorem rowF {W : World} {base m : Nat} {u : Option Addr} {cu : Nat} {L : List CB} (h : W.ownsRow base 45 1 (.slice u m cu) m (fCells (bits L))) (hm : L.length = m) (w : World) (hb : Below W.heap.size W w) (k : Nat) (hk : k < m) :
  ∃ g, u = some ⟨g, 0, none⟩ ∧ g < W.heap.size ∧ w.cell? ⟨g, k, none⟩ = some (.float .f64 (L[k]?.getD default).b) := by
 rcases h.2 with ⟨h1, h2⟩ | ⟨g, cap, cur, h1, _⟩
 ·omega
 ·cases h1
  have hgl := (h.lt g rfl).2
  have hx : L[k]? = some (L[k]?.getD default) := by rw [List.getElem?_eq_getElem (by omega)]; rfl
  have hcl := h.cells (g := g) rfl k (.float .f64 (L[k]?.getD default).b) (by rw [fCells_bits, List.getElem?_map, hx]; rfl)
  rw [addr0] at hcl
  exact ⟨g, rfl, hgl, (hb.cell (p := ⟨g, k, none⟩) hgl).trans hcl⟩
theorem iF_len (x : CB) (l : List CB) : (iF x l).1.length ≤ l.length + 1 := by
 have key : ∀ (l : List CB) (p : List CB × Bool), (l.foldl (iStep x) p).1.length ≤ p.1.length + l.length + (if p.2 = true then 0 else 1) := by
  intro l
  induction l with
  | nil => intro p; simp
  | cons y l ih =>
   intro p
   have h1 := ih (iStep x p y)
   show (l.foldl (iStep x) (iStep x p y)).1.length ≤ p.1.length + (l.length + 1) + (if p.2 = true then 0 else 1)
   have h2 : (iStep x p y).1.length + (if (iStep x p y).2 = true then 0 else 1) ≤ p.1.length + 1 + (if p.2 = true then 0 else 1) := by
    unfold iStep
    rcases p with ⟨p, b⟩
    cases b
    ·by_cases h : x.code < y.code
     ·have h' : x.code ≤ y.code := by omega
      simp [h, h']
     ·by_cases h' : x.code ≤ y.code
      ·simp [h, h']
      ·simp [h, h']
    ·simp
   omega
 have := key l ([], false)
 simp at this
 unfold iF
 omega
theorem iIns_len (l : List CB) (x : CB) : (iIns l x).length ≤ l.length + 2 := by
 have := iF_len x l
 unfold iIns
 split
 ·omega
 ·rw [List.length_append]; simp; omega
theorem rsort_len (xs : List Nat) : (rsort xs).length ≤ xs.length := by rw [sort_same]; exact (by have := dd_len (sortC (xs.map cb)); rw [sortC_len, List.length_map] at this; exact this)

set_option maxHeartbeats 2000000 in
set_option maxRecDepth 100000 in
theorem refSort_any (a : Option Addr) (c n : Nat) (xs : List Nat) (w : World) (hn : xs.length = n) (h : FAt w a xs) (hl : n ≤ 17592186044410) :
  Calls Tryz.prog 38 #[.slice a n c] w (FSRet w (rsort xs)) := by
 have HN := hid hn; have HS := hid h
 have h00 : Below w.heap.size w (w.alloc (.cells #[] 45)) := by exact below_auto
 have H0 : Hid ((w.alloc (.cells #[] 45)).ownsRow w.heap.size 45 1 (.slice (some ⟨w.heap.size, 0, none⟩) 0 0) 0 (fCells (bits (rsort (xs.take 0))))) :=
  hid ⟨rfl, .inr ⟨w.heap.size, 0, #[], rfl, Nat.le_refl _, heap_alloc_new w _, Nat.le_refl _, by unfold maxLen; omega, rfl, rfl⟩⟩
 have HRL := hid fun i => rsort_len (xs.take i)
 clear hn h
 go_enter Tryz.func38, Tryz.ntmps38
 go_wp2
 go_loopw [4, 3] (fun iv uv wr => ∃ (i : Nat) (u : Option Addr) (cu : Nat), i ≤ n ∧ iv = .int .i64 i ∧ uv = .slice u (rsort (xs.take i)).length cu ∧ Hid (wr.ownsRow w.heap.size 45 1 (.slice u (rsort (xs.take i)).length cu) (rsort (xs.take i)).length (fCells (bits (rsort (xs.take i))))) ∧ Below w.heap.size w wr) (fun iv _ _ => n - (intOf iv).toNat)
 case atStart => exact ⟨0, some ⟨w.heap.size, 0, none⟩, 0, Nat.zero_le _, rfl, rfl, H0, h00⟩
 case round =>
  obtain ⟨i, u, cu, hin, rfl, rfl, HO, hb⟩ := hrel
  obtain ⟨wo, rfl⟩ : ∃ x, x = wr := ⟨_, rfl⟩
  have hz := hb.size
  by_cases hlt : i < n
  ·have hlt' : (i : Int) < (n : Int) := by omega
   have hil : i < xs.length := by rw [HN.out]; exact hlt
   have hx := fl_some hil
   have l1 := HS.out.lt i hil
   rcases HS.out.row with h0 | ⟨g, o, rfl, hg, hcs⟩
   ·rw [h0] at hil; simp at hil
   have hd0 := hcs i hil
   have hrl := HRL.out i
   rw [List.length_take, HN.out] at hrl
   have HR : Hid (rsort (xs.take (i + 1)) = iIns (rsort (xs.take i)) (cb (xs[i]?.getD 0))) := hid (rsort_take hx)
   generalize xs[i]?.getD 0 = x at *
   generalize rsort (xs.take i) = out at *
   obtain ⟨m, hm⟩ : ∃ m, out.length = m := ⟨_, rfl⟩
   rw [hm] at HO hrl ⊢
   have HM := hid hm
   have HX : Hid (∀ W, Below w.heap.size w W → W.cell? ⟨g, o + i, none⟩ = some (.float .f64 x)) := hid fun W hW => (hW.cell (p := ⟨g, o + i, none⟩) hg).trans hd0
   have HCo := hid fun (W : World) (hW : Below wo.heap.size wo W) (k : Nat) (hk : k < m) => rowF HO.out HM.out W hW k hk
   have HCd := fun W => refCode_any x l1 W
   have HOf := fun W => refOfC x W
   rw [← cb_code x] at HCd HOf
   rw [show cbits x = (cb x).b from rfl] at HOf
   have h1A : Below wo.heap.size wo (wo.alloc (.cells #[] 45)) := by exact below_auto
   have H1 : Hid ((wo.alloc (.cells #[] 45)).ownsRow wo.heap.size 45 1 (.slice (some ⟨wo.heap.size, 0, none⟩) 0 0) 0 (fCells (bits []))) :=
    hid ⟨rfl, .inr ⟨wo.heap.size, 0, #[], rfl, Nat.le_refl _, heap_alloc_new wo _, Nat.le_refl _, by unfold maxLen; omega, rfl, rfl⟩⟩
   have hxc : (cb x).code = codeOf x := cb_code x
   generalize hcbx : cb x = X at *
   have HXC := hid hxc
   clear hcs hd0 hx hm hil hcbx hxc
   go_wp2
   go_loopw [7, 5, 6] (fun kv av dv w3 => ∃ (k : Nat) (v : Option Addr) (cv : Nat), k ≤ m ∧ kv = .int .i64 k ∧ av = .slice v (iF X (out.take k)).1.length cv ∧ dv = .bool (iF X (out.take k)).2 ∧ Hid (w3.ownsRow wo.heap.size 45 1 (.slice v (iF X (out.take k)).1.length cv) (iF X (out.take k)).1.length (fCells (bits (iF X (out.take k)).1))) ∧ Below wo.heap.size wo w3) (fun kv _ _ _ => m - (intOf kv).toNat)
   case atStart => exact ⟨0, some ⟨wo.heap.size, 0, none⟩, 0, Nat.zero_le _, rfl, rfl, rfl, H1, h1A⟩
   case round =>
    obtain ⟨k, v, cv, hkm, rfl, rfl, rfl, HA, hb3⟩ := hrel
    have hz3 := hb3.size
    have hbw := hb.trans (hb3.mono hz)
    have e0 := HX.out wr hbw
    have hal := iF_len X (out.take k)
    rw [List.length_take, HM.out] at hal
    have hgw : g < wr.heap.size := Nat.lt_of_lt_of_le hg hbw.size
    by_cases hlk : k < m
    ·have hlk' : (k : Int) < (m : Int) := by omega
     obtain ⟨g', rfl, hg', e1⟩ := HCo.out wr hb3 k hlk
     have hxk : out[k]? = some (out[k]?.getD default) := by rw [List.getElem?_eq_getElem (by rw [HM.out]; omega)]; rfl
     have hst := iF_take (x := X) hxk
     generalize out[k]?.getD default = y at *
     obtain ⟨A, d, hp⟩ : ∃ A d, iF X (out.take k) = (A, d) := ⟨_, _, rfl⟩
     rw [hp] at HA hst hal ⊢
     simp only at HA hst hal ⊢
     obtain ⟨na, hna⟩ : ∃ na, A.length = na := ⟨_, rfl⟩
     rw [hna] at HA hal ⊢
     have hna2 : na ≤ 17592186044412 := by omega
     have hgl : g' < wr.heap.size := by omega
     clear hp hxk hal
     have HCmp := fun W => refCmp01_any x y.b l1 y.lt W
     have hyc : codeOf y.b = y.code := rfl
     rw [hyc, ← HXC.out] at HCmp
     have oneY : ∀ (W : World) (v' : Option Addr) (cv' : Nat) (B : List CB) (nb : Nat), B.length = nb → nb ≤ 17592186044414 → Below wr.heap.size wr W → W.ownsRow wo.heap.size 45 1 (.slice v' nb cv') nb (fCells (bits B)) →
       ∃ a' c' w', (∀ ty, (Builtin.append_ #[29, 29] ty #[.slice v' nb cv', .slice (some ⟨W.heap.size, 0, none⟩) 1 1]).run Tryz.prog (W.alloc (.cells #[.float .f64 y.b] 45)) = .ok (.slice a' (nb + 1) c') w') ∧
        Hid (w'.ownsRow wo.heap.size 45 1 (.slice a' (nb + 1) c') (nb + 1) (fCells (bits (B ++ [y])))) ∧ Below wo.heap.size wo w' := fun W v' cv' B nb hB hnb hW hown => by
      have hzW := hW.size
      obtain ⟨a', c', w', hr, ho', hb'⟩ := appF (xs := bits B) y.b (by rw [bits_len]; exact hB) hown (by omega) hnb
      exact ⟨a', c', w', hr, hid (by rw [show bits (B ++ [y]) = bits B ++ [y.b] by simp [bits]]; exact ho'), hb3.trans ((hW.mono hz3).trans hb')⟩
     have HAk : ∀ W, Below wr.heap.size wr W → W.ownsRow wo.heap.size 45 1 (.slice v na cv) na (fCells (bits A)) := fun W hW => HA.out.kept (grown_of_below hW) (by cases (Value.slice v na cv).ownBlock <;> simp)
     have hcases : (X.code < y.code ∧ cmpI X.code y.code = -1) ∨ (X.code = y.code ∧ cmpI X.code y.code = 0) ∨ (y.code < X.code ∧ cmpI X.code y.code = 1) := by
      unfold cmpI
      rcases Int.lt_trichotomy X.code y.code with h | h | h
      ·exact .inl ⟨h, if_pos h⟩
      ·exact .inr (.inl ⟨h, by rw [if_neg (by omega), if_neg (by omega)]⟩)
      ·exact .inr (.inr ⟨h, by rw [if_neg (by omega), if_pos h]⟩)
     rcases hcases with ⟨hc1, hc2⟩ | ⟨hc1, hc2⟩ | ⟨hc1, hc2⟩
     ·rw [hc2] at HCmp
      cases d
      ·have HS3 : Hid (iF X (out.take (k + 1)) = (A ++ [X] ++ [y], true)) := hid (by rw [hst]; exact iStep_lt A hc1)
       clear hst oneY
       go_wp2
       (refine wp_region_ext (by kernel_rfl) (by kernel_rfl) ?_; (repeat (go_big_quiet_step (first | (go_at_call 89; with_reducible exact Calls.ext_same (HCmp _))))); refine mX ?_; intro w4 hb4 hc4 hf4 hz4; intros; (try have hu4_wr_0 : wr.heap.size < w4.heap.size := by omega); (try have hu4_wr_1 : wr.heap.size + 1 < w4.heap.size := by omega))
       go_upto_region 12 with fail
       have hbq : Below wr.heap.size wr w4 := by exact below_auto
       have e0' := (hbq.cell (p := ⟨g, _, none⟩) hgw).trans e0
       have e1' := (hbq.cell (p := ⟨g', _, none⟩) hgl).trans e1
       have hzq := hbq.size
       obtain ⟨a', c', w', hr, ho', hb'⟩ := appF (xs := bits A) X.b (by rw [bits_len]; exact hna) (HAk w4 hbq) (by omega) (by omega)
       have e1'' := (hb'.cell (p := ⟨g', _, none⟩) hg').trans e1'
       have hzq' := hb'.size
       obtain ⟨a2, c2, w2', hr2, ho2, hb2⟩ := appF (xs := bits A ++ [X.b]) y.b (by rw [List.length_append, bits_len, hna]; rfl) ho' (by omega) (by omega)
       have HO' : Hid (w2'.ownsRow wo.heap.size 45 1 (.slice a2 (na + 1 + 1) c2) (na + 1 + 1) (fCells (bits (A ++ [X] ++ [y])))) := hid (by rw [show bits (A ++ [X] ++ [y]) = bits A ++ [X.b] ++ [y.b] by simp [bits]]; exact ho2)
       have Hb5 := hid (hb3.trans ((hbq.mono hz3).trans (hb'.trans hb2)))
       clear ho' ho2 HAk
       go_upto_region 13 with (first | (go_at_call 86; (with_reducible refine (HCd _).mono ?_); rintro e w' ⟨rfl, rfl⟩) | (go_at_call 90; (with_reducible refine (HOf _).mono ?_); rintro e w' ⟨rfl, rfl⟩) | (at_builtin; refine Lib.wpList_append_run _ rfl _ _ _ _ rfl _ _ rfl rfl _ _ (hr _) ?_))
       go_wp2_with (at_builtin; refine Lib.wpList_append_run _ rfl _ _ _ _ rfl _ _ rfl rfl _ _ (hr2 _) ?_)
       go_roundw
       case rel => exact ⟨k + 1, a2, c2, by omega, by go_num, by rw [HS3.out]; simp [hna], by rw [HS3.out], hid (by rw [HS3.out]; simp only [List.length_append, List.length_cons, List.length_nil, hna]; exact HO'.out), Hb5.out⟩
       case measure => simp [intOf]; omega
      ·have HS3 : Hid (iF X (out.take (k + 1)) = (A ++ [y], true)) := hid (by rw [hst]; exact iStep_done A)
       clear hst
       go_wp2
       (refine wp_region_ext (by kernel_rfl) (by kernel_rfl) ?_; (repeat (go_big_quiet_step (first | (go_at_call 89; with_reducible exact Calls.ext_same (HCmp _))))); refine mX ?_; intro w4 hb4 hc4 hf4 hz4; intros; (try have hu4_wr_0 : wr.heap.size < w4.heap.size := by omega); (try have hu4_wr_1 : wr.heap.size + 1 < w4.heap.size := by omega))
       have hbq : Below wr.heap.size wr w4 := by exact below_auto
       have e1' := (hbq.cell (p := ⟨g', _, none⟩) hgl).trans e1
       obtain ⟨a', c', w', hr, HO', hb'⟩ := oneY w4 v cv A na hna (by omega) hbq (HAk w4 hbq)
       clear oneY HAk
       go_wp2_with (at_builtin; refine Lib.wpList_append_run _ rfl _ _ _ _ rfl _ _ rfl rfl _ _ (hr _) ?_)
       go_roundw
       case rel => exact ⟨k + 1, a', c', by omega, by go_num, by rw [HS3.out]; simp [hna], by rw [HS3.out], hid (by rw [HS3.out]; simp only [List.length_append, List.length_cons, List.length_nil, hna]; exact HO'.out), hb'⟩
       case measure => simp [intOf]; omega
     ·rw [hc2] at HCmp
      cases d
      all_goals
       have HS3 : Hid (iF X (out.take (k + 1)) = (A ++ [y], true)) := hid (by rw [hst]; exact iStep_eq A _ hc1)
       clear hst
       go_wp2
       (refine wp_region_ext (by kernel_rfl) (by kernel_rfl) ?_; (repeat (go_big_quiet_step (first | (go_at_call 89; with_reducible exact Calls.ext_same (HCmp _))))); refine mX ?_; intro w4 hb4 hc4 hf4 hz4; intros; (try have hu4_wr_0 : wr.heap.size < w4.heap.size := by omega); (try have hu4_wr_1 : wr.heap.size + 1 < w4.heap.size := by omega))
       have hbq : Below wr.heap.size wr w4 := by exact below_auto
       have e1' := (hbq.cell (p := ⟨g', _, none⟩) hgl).trans e1
       obtain ⟨a', c', w', hr, HO', hb'⟩ := oneY w4 v cv A na hna (by omega) hbq (HAk w4 hbq)
       clear oneY HAk
       go_wp2_with (at_builtin; refine Lib.wpList_append_run _ rfl _ _ _ _ rfl _ _ rfl rfl _ _ (hr _) ?_)
       go_roundw
       case rel => exact ⟨k + 1, a', c', by omega, by go_num, by rw [HS3.out]; simp [hna], by rw [HS3.out], hid (by rw [HS3.out]; simp only [List.length_append, List.length_cons, List.length_nil, hna]; exact HO'.out), hb'⟩
       case measure => simp [intOf]; omega
     ·rw [hc2] at HCmp
      cases d
      ·have HS3 : Hid (iF X (out.take (k + 1)) = (A ++ [y], false)) := hid (by rw [hst]; exact iStep_gt A _ hc1)
       clear hst
       go_wp2
       (refine wp_region_ext (by kernel_rfl) (by kernel_rfl) ?_; (repeat (go_big_quiet_step (first | (go_at_call 89; with_reducible exact Calls.ext_same (HCmp _))))); refine mX ?_; intro w4 hb4 hc4 hf4 hz4; intros; (try have hu4_wr_0 : wr.heap.size < w4.heap.size := by omega); (try have hu4_wr_1 : wr.heap.size + 1 < w4.heap.size := by omega))
       have hbq : Below wr.heap.size wr w4 := by exact below_auto
       have e1' := (hbq.cell (p := ⟨g', _, none⟩) hgl).trans e1
       obtain ⟨a', c', w', hr, HO', hb'⟩ := oneY w4 v cv A na hna (by omega) hbq (HAk w4 hbq)
       clear oneY HAk
       go_wp2_with (at_builtin; refine Lib.wpList_append_run _ rfl _ _ _ _ rfl _ _ rfl rfl _ _ (hr _) ?_)
       go_roundw
       case rel => exact ⟨k + 1, a', c', by omega, by go_num, by rw [HS3.out]; simp [hna], by rw [HS3.out], hid (by rw [HS3.out]; simp only [List.length_append, List.length_cons, List.length_nil, hna]; exact HO'.out), hb'⟩
       case measure => simp [intOf]; omega
      ·have HS3 : Hid (iF X (out.take (k + 1)) = (A ++ [y], true)) := hid (by rw [hst]; exact iStep_gt A _ hc1)
       clear hst
       go_wp2
       (refine wp_region_ext (by kernel_rfl) (by kernel_rfl) ?_; (repeat (go_big_quiet_step (first | (go_at_call 89; with_reducible exact Calls.ext_same (HCmp _))))); refine mX ?_; intro w4 hb4 hc4 hf4 hz4; intros; (try have hu4_wr_0 : wr.heap.size < w4.heap.size := by omega); (try have hu4_wr_1 : wr.heap.size + 1 < w4.heap.size := by omega))
       have hbq : Below wr.heap.size wr w4 := by exact below_auto
       have e1' := (hbq.cell (p := ⟨g', _, none⟩) hgl).trans e1
       obtain ⟨a', c', w', hr, HO', hb'⟩ := oneY w4 v cv A na hna (by omega) hbq (HAk w4 hbq)
       clear oneY HAk
       go_wp2_with (at_builtin; refine Lib.wpList_append_run _ rfl _ _ _ _ rfl _ _ rfl rfl _ _ (hr _) ?_)
       go_roundw
       case rel => exact ⟨k + 1, a', c', by omega, by go_num, by rw [HS3.out]; simp [hna], by rw [HS3.out], hid (by rw [HS3.out]; simp only [List.length_append, List.length_cons, List.length_nil, hna]; exact HO'.out), hb'⟩
       case measure => simp [intOf]; omega
    ·obtain rfl : k = m := by omega
     have htk : out.take k = out := by rw [← HM.out, List.take_length]
     rw [htk] at HA hal ⊢
     have HI : Hid (iIns out X = if (iF X out).2 = true then (iF X out).1 else (iF X out).1 ++ [X]) := hid rfl
     obtain ⟨A, d, hp⟩ : ∃ A d, iF X out = (A, d) := ⟨_, _, rfl⟩
     rw [hp] at HA HI hal ⊢
     simp only at HA HI hal ⊢
     obtain ⟨na, hna⟩ : ∃ na, A.length = na := ⟨_, rfl⟩
     rw [hna] at HA hal ⊢
     clear hp htk
     cases d
     ·have HI2 : Hid (rsort (xs.take (i + 1)) = A ++ [X]) := hid (by rw [HR.out, HI.out]; rfl)
      obtain ⟨a', c', w', hr, ho', hb'⟩ := appF (xs := bits A) X.b (by rw [bits_len]; exact hna) HA.out hz3 (by omega)
      have HO' : Hid (w'.ownsRow w.heap.size 45 1 (.slice a' (na + 1) c') (na + 1) (fCells (bits (A ++ [X])))) := hid (by rw [show bits (A ++ [X]) = bits A ++ [X.b] by simp [bits]]; exact own_le ho' hz)
      have Hb5 := hid (hb.trans ((hb3.trans hb').mono hz))
      have Hl : Hid ((A ++ [X]).length = na + 1) := hid (by rw [List.length_append, hna]; rfl)
      clear ho'
      go_wp2_with (first | (go_at_call 86; (with_reducible refine (HCd _).mono ?_); rintro e w' ⟨rfl, rfl⟩) | (go_at_call 90; (with_reducible refine (HOf _).mono ?_); rintro e w' ⟨rfl, rfl⟩) | (at_builtin; refine Lib.wpList_append_run _ rfl _ _ _ _ rfl _ _ rfl rfl _ _ (hr _) ?_))
      go_roundw
      case rel => exact ⟨i + 1, a', c', by omega, by go_num, by rw [HI2.out, Hl.out], hid (by rw [HI2.out, Hl.out]; exact HO'.out), Hb5.out⟩
      case measure => simp [intOf]; omega
     ·have HI2 : Hid (rsort (xs.take (i + 1)) = A) := hid (by rw [HR.out, HI.out]; rfl)
      have HO' := hid (own_le HA.out hz)
      have Hb5 := hid (hb.trans (hb3.mono hz))
      go_wp2_with fail
      go_roundw
      case rel => exact ⟨i + 1, v, cv, by omega, by go_num, by rw [HI2.out, hna], hid (by rw [HI2.out, hna]; exact HO'.out), Hb5.out⟩
      case measure => simp [intOf]; omega
  ·obtain rfl : i = n := by omega
   have Hfin : Hid (∀ W, Below wo.heap.size wo W → FSRet w (rsort xs) (.returned (.slice u (rsort (xs.take i)).length cu)) W) := hid fun W h1 => by
    have hown := HO.out
    rw [show xs.take i = xs by rw [← HN.out, List.take_length]] at hown ⊢
    exact ⟨u, cu, rfl, hown.kept (grown_of_below h1) (by cases (Value.slice u (rsort xs).length cu).ownBlock <;> simp), hb.trans (h1.mono hz)⟩
   go_wp2
   go_ret
   exact Hfin.out _ (by exact below_auto)
end Go.Proofs.YtfbachckdadhoaaGreat.K
namespace Go.Proofs.YtfbachckdadhoaaGreat.K
set_option linter.unusedVariables false
set_option linter.unusedSimpArgs false
open Go.RowKit Fl

theorem refNanL_any (a : Option Addr) (c n : Nat) (xs : List Nat) (v : Bool) (w : World) (hn : xs.length = n) (h : FAt w a xs) (hv : xs.any isNaN = v) :
  Calls Tryz.prog 34 #[.slice a n c] w fun e w' => e = .returned (.bool v) ∧ w = w' := by
 obtain ⟨hr, hl, hm⟩ := h
 unfold maxLen at hm
 rw [hn] at hm
 have HN := hid hn; have HV := hid hv; have HL := hid hl
 clear hn hv hl
 go_enter Tryz.func34, Tryz.ntmps34
 go_wp2
 go_loop [3] (fun i => ∃ k : Nat, k ≤ n ∧ i = .int .i64 k ∧ Hid (∀ j : Nat, j < k → ∀ y, xs[j]? = some y → isNaN y = false)) (fun i => n - (intOf i).toNat)
 case atStart => exact ⟨0, Nat.zero_le _, rfl, hid fun j hj => absurd hj (Nat.not_lt_zero _)⟩
 case round =>
  obtain ⟨k, hk, rfl, HR⟩ := hrel
  by_cases hlt : k < n
  ·have hkl : k < xs.length := by rw [HN.out]; exact hlt
   rcases hr with h0 | ⟨b, o, rfl, hb, hc⟩
   ·rw [h0] at hkl; simp at hkl
   have hcell := hc k hkl
   have hl1 := HL.out k hkl
   have hlt' : (k : Int) < (n : Int) := by omega
   have hkx := hid (fl_some hkl)
   clear hc hkl
   generalize xs[k]?.getD 0 = x at *
   have H := fun W => refNan_any x hl1 W
   cases hp : isNaN x
   ·rw [hp] at H
    have HP := hid hp
    clear hp
    go_wp2_with (go_at_call 84; (with_reducible refine (H _).mono ?_); rintro e w' ⟨rfl, rfl⟩)
    go_round
    case rel => exact ⟨k + 1, by omega, by go_num, hid fun j hj y hy => by
      by_cases h : j < k
      ·exact HR.out j h y hy
      ·obtain rfl : j = k := by omega
       rw [hkx.out] at hy; cases hy; exact HP.out⟩
    case measure => simp [intOf]; omega
   ·rw [hp] at H
    have Hv : Hid (v = true) := hid (by rw [← HV.out, List.any_eq_true]; exact ⟨x, List.mem_of_getElem? hkx.out, hp⟩)
    clear hp
    go_wp2_with (go_at_call 84; (with_reducible refine (H _).mono ?_); rintro e w' ⟨rfl, rfl⟩)
    go_ret
    exact ⟨ret_bool (by rw [Hv.out]), rfl⟩
  ·obtain rfl : k = n := by omega
   have Hv : Hid (v = false) := hid (by
    rw [← HV.out, List.any_eq_false]
    intro x hx
    obtain ⟨j, hj⟩ := List.mem_iff_getElem?.1 hx
    have := (List.getElem?_eq_some_iff.1 hj).1
    rw [HR.out j (by have := HN.out; omega) x hj]; simp)
   go_wp2
   go_ret
   exact ⟨ret_bool (by rw [Hv.out]), rfl⟩

def FloatsRow (L : List Nat) (v : Value) (w : World) : Prop := ∃ a c, v = .slice a L.length c ∧ FAt w a L
theorem FloatsRow.below {L : List Nat} {v : Value} {w w' : World} (h : FloatsRow L v w) (hb : Below w.heap.size w w') : FloatsRow L v w' := by
 obtain ⟨a, c, h1, h2⟩ := h
 exact ⟨a, c, h1, h2.below hb⟩
def RangesRow (G : List RK) (v : Value) (w : World) : Prop := ∃ base, (∃ a c, v = .slice a G.length c) ∧ w.ownsRow base 84 2 v G.length (N.rCells G)
theorem RangesRow.below {G : List RK} {v : Value} {w w' : World} (h : RangesRow G v w) (hb : Below w.heap.size w w') : RangesRow G v w' := by
 obtain ⟨base, h1, h2⟩ := h
 exact ⟨base, h1, h2.kept (grown_of_below hb) (by cases v.ownBlock <;> simp)⟩

theorem okN_b {n m : Int} {b : Bool} (h : okN n m = b) : (decide (n < m) || decide (1099511627776 < n)) = !b := by
 rw [← h]; unfold okN
 by_cases h1 : n < m <;> by_cases h2 : 1099511627776 < n
 ·simp [h1, h2, show ¬ m ≤ n by omega]
 ·simp [h1, show ¬ m ≤ n by omega]
 ·simp [h2, show m ≤ n by omega, show ¬ n ≤ 1099511627776 by omega]
 ·simp [h1, h2, show m ≤ n by omega, show n ≤ 1099511627776 by omega]

set_option maxHeartbeats 4000000 in
set_option maxRecDepth 100000 in
theorem refCheck_w (s0 s1 s2 : Int) (ra sa wa : Option Addr) (n1 n2 n3 rc sc wc : Nat) (ss : List SpanV) (G : List RK) (L1 L3 : List Nat) (a1 a2 em o1 o2 o3 : Bool) (w : World)
  (k1 : (1 : Int) ≤ s0) (k2 : s0 ≤ 1099511627776) (k3 : (1 : Int) ≤ s1) (k4 : s1 ≤ 1099511627776) (k5 : (0 : Int) ≤ s2) (k6 : s2 ≤ 1099511627776) (m1 : n1 ≤ 16) (m2 : n2 ≤ 8) (m3 : n3 ≤ 16)
  (HN : Hid (ss.length = n2)) (HS : Hid (SAt w sa ss)) (HM : Hid (hasE ss = em))
  (Ha1 : ∀ W, Below w.heap.size w W → Calls Tryz.prog 34 #[.slice ra n1 rc] W fun e w' => e = .returned (.bool a1) ∧ W = w')
  (Ha2 : ∀ W, Below w.heap.size w W → Calls Tryz.prog 34 #[.slice wa n3 wc] W fun e w' => e = .returned (.bool a2) ∧ W = w')
  (Hs1 : ∀ W, Below w.heap.size w W → Calls Tryz.prog 38 #[.slice ra n1 rc] W fun e W' => ∃ v, e = .returned v ∧ FloatsRow L1 v W' ∧ Below W.heap.size W W')
  (Hs2 : ∀ W, Below w.heap.size w W → Calls Tryz.prog 38 #[.slice wa n3 wc] W fun e W' => ∃ v, e = .returned v ∧ FloatsRow L3 v W' ∧ Below W.heap.size W W')
  (Hk1 : ∀ (v : Value) (W : World), FloatsRow L1 v W → Below w.heap.size w W → Calls Tryz.prog 37 #[.slice ra n1 rc, v] W (Ret (.bool o1) W))
  (Hk2 : ∀ (v : Value) (W : World), FloatsRow L3 v W → Below w.heap.size w W → Calls Tryz.prog 37 #[.slice wa n3 wc, v] W (Ret (.bool o2) W))
  (HrN : ∀ W, Below w.heap.size w W → Calls Tryz.prog 41 #[.slice sa n2 sc] W fun e W' => ∃ v, e = .returned v ∧ RangesRow G v W' ∧ Below W.heap.size W W')
  (HrS : ∀ (v : Value) (W : World), RangesRow G v W → Calls Tryz.prog 40 #[v] W fun e W' => ∃ v, e = .returned v ∧ FormsRow G v W' ∧ Below W.heap.size W W')
  (HrE : ∀ (v : Value) (W : World), FormsRow G v W → Below w.heap.size w W → Calls Tryz.prog 39 #[.slice sa n2 sc, v] W (Ret (.bool o3) W)) :
  Calls Tryz.prog 15 #[.agg #[.int .i64 s0, .int .i64 s1, .int .i64 s2, .slice ra n1 rc, .slice sa n2 sc, .slice wa n3 wc]] w (Ret (.int .i64 (checkI true false a1 a2 em o1 o2 o3)) w) := by
 have q1 : ¬ s0 < 1 := by omega
 have q2 : ¬ (1099511627776 : Int) < s0 := by omega
 have q3 : ¬ s1 < 1 := by omega
 have q4 : ¬ (1099511627776 : Int) < s1 := by omega
 have q5 : ¬ s2 < 0 := by omega
 have q6 : ¬ (1099511627776 : Int) < s2 := by omega
 have p1 : ¬ (16 : Int) < (n1 : Int) := by omega
 have p2 : ¬ (8 : Int) < (n2 : Int) := by omega
 have p3 : ¬ (16 : Int) < (n3 : Int) := by omega
 clear k1 k2 k3 k4 k5 k6
 cases a1
 rotate_left
 ·show Calls _ _ _ _ (Ret (.int .i64 40) w)
  clear Hs1 Hs2 Hk1 Hk2 HrN HrS HrE
  go_enter Tryz.func15, Tryz.ntmps15
  go_wp2_with (first | (go_at_call 34; (with_reducible refine (Ha1 _ (by exact below_auto)).mono ?_); rintro e w' ⟨rfl, rfl⟩) | (go_at_call 34; (with_reducible refine (Ha2 _ (by exact below_auto)).mono ?_); rintro e w' ⟨rfl, rfl⟩))
  go_ret
  exact ⟨rfl, by exact below_auto⟩
 cases a2
 rotate_left
 ·show Calls _ _ _ _ (Ret (.int .i64 40) w)
  clear Hs1 Hs2 Hk1 Hk2 HrN HrS HrE
  go_enter Tryz.func15, Tryz.ntmps15
  go_wp2_with (first | (go_at_call 34; (with_reducible refine (Ha1 _ (by exact below_auto)).mono ?_); rintro e w' ⟨rfl, rfl⟩) | (go_at_call 34; (with_reducible refine (Ha2 _ (by exact below_auto)).mono ?_); rintro e w' ⟨rfl, rfl⟩))
  go_ret
  exact ⟨rfl, by exact below_auto⟩
 have HQ : Hid (em = true → checkI true false false false em o1 o2 o3 = 41) := hid (fun h => by rw [h]; rfl)
 have HQ2 : Hid (em = false → checkI true false false false em o1 o2 o3 = if (o1 && o2 && o3) = true then 0 else 42) := hid (fun h => by rw [h]; rfl)
 obtain ⟨V, HV⟩ : ∃ V, Hid (V = checkI true false false false em o1 o2 o3) := ⟨_, hid rfl⟩
 rw [← HV.out]
 go_enter Tryz.func15, Tryz.ntmps15
 go_wp2_with (first | (go_at_call 34; (with_reducible refine (Ha1 _ (by exact below_auto)).mono ?_); rintro e w' ⟨rfl, rfl⟩) | (go_at_call 34; (with_reducible refine (Ha2 _ (by exact below_auto)).mono ?_); rintro e w' ⟨rfl, rfl⟩))
 have hA : Below w.heap.size w (w.alloc (.cells #[.int .i64 s0, .int .i64 s1, .int .i64 s2, .slice ra n1 rc, .slice sa n2 sc, .slice wa n3 wc] 32)) := by exact below_auto
 generalize hW0 : World.alloc _ _ = w0 at *
 have hz0 : w.heap.size < w0.heap.size := by rw [← hW0]; simp
 have b3 : w0.cell? ⟨w.heap.size, 3, none⟩ = some (.slice ra n1 rc) := by rw [← hW0]; simp [go_sem]
 have b4 : w0.cell? ⟨w.heap.size, 4, none⟩ = some (.slice sa n2 sc) := by rw [← hW0]; simp [go_sem]
 have b5 : w0.cell? ⟨w.heap.size, 5, none⟩ = some (.slice wa n3 wc) := by rw [← hW0]; simp [go_sem]
 clear hW0 Ha1 Ha2
 go_loopw [3] (fun iv wr => ∃ k : Nat, k ≤ n2 ∧ iv = .int .i64 k ∧ Hid (∀ j : Nat, j < k → ∀ y, ss[j]? = some y → y.rg.isNone = false) ∧ Below w0.heap.size w0 wr) (fun iv _ => n2 - (intOf iv).toNat)
 case atStart => exact ⟨0, Nat.zero_le _, rfl, hid fun j hj => absurd hj (Nat.not_lt_zero _), Below.refl _ _⟩
 case round =>
  obtain ⟨k, hk, rfl, HR, hb⟩ := hrel
  have hz := hb.size
  have hbw : Below w.heap.size w wr := hA.trans (hb.mono (by omega))
  have c3 := (hb.cell (p := ⟨w.heap.size, 3, none⟩) hz0).trans b3
  have c4 := (hb.cell (p := ⟨w.heap.size, 4, none⟩) hz0).trans b4
  have c5 := (hb.cell (p := ⟨w.heap.size, 5, none⟩) hz0).trans b5
  have hzr : w.heap.size < wr.heap.size := by omega
  by_cases hlt : k < n2
  ·have hlt' : (k : Int) < (n2 : Int) := by omega
   have hil : k < ss.length := by rw [HN.out]; exact hlt
   have hx := hid (sp_some hil)
   obtain ⟨l1, l2⟩ := HS.out.lt k hil
   rcases HS.out.row with h0 | ⟨g, o, rfl, hg, hcs⟩
   ·rw [h0] at hil; simp at hil
   obtain ⟨e0, e1, e2, e3⟩ := hcs k hil
   have kk := fun j => hbw.cell (p := ⟨g, j, none⟩) hg
   have d0 := (kk _).trans e0; have d1 := (kk _).trans e1; have d2 := (kk _).trans e2; have d3 := (kk _).trans e3
   clear e0 e1 e2 e3 kk hcs hil Hs1 Hs2 Hk1 Hk2 HrN HrS HrE
   generalize ss[k]?.getD default = s at *
   have hgw : g < wr.heap.size := by omega
   rcases hr : canonS s.lo s.hi s.a s.b with _ | ⟨l, h⟩
   ·have HRR := hid hr
    have HOf : ∀ W, Calls Tryz.prog 36 #[.agg #[.float .f64 s.lo, .float .f64 s.hi, .bool s.a, .bool s.b]] W (Ret (.agg #[.int .u64 1, .int .u64 0]) W) := fun W => refOf_is s.lo s.hi s.a s.b none W l1 l2 HRR
    have Hem : Hid (em = true) := hid (by
     rw [← HM.out]; unfold hasE
     rw [List.any_eq_true]
     exact ⟨s, List.mem_of_getElem? hx.out, by show (canonS s.lo s.hi s.a s.b).isNone = true; rw [hr]; rfl⟩)
    clear hr
    go_wp2_with (first | (go_at_call 36; (with_reducible refine (HOf _).mono ?_); rintro e w1 ⟨rfl, hb1⟩; refine mB hb1 ?_; intro hc1 hf1 hz1; intros; (try have hu1_wr_0 : wr.heap.size < w1.heap.size := by omega); (try have hu1_wr_1 : wr.heap.size + 1 < w1.heap.size := by omega)) | (go_at_call 35; (with_reducible refine (refEmpty_none _).mono ?_); rintro e w2 ⟨rfl, hb2⟩; refine mB hb2 ?_; intro hc2 hf2 hz2; intros; (try have hu2_wr_0 : wr.heap.size < w2.heap.size := by omega); (try have hu2_wr_1 : wr.heap.size + 1 < w2.heap.size := by omega)))
    go_ret
    exact ⟨ret_int (by rw [HV.out, HQ.out Hem.out]), by exact below_auto⟩
   ·have HRR := hid hr
    have hle := canonS_le hr
    have HOf : ∀ W, Calls Tryz.prog 36 #[.agg #[.float .f64 s.lo, .float .f64 s.hi, .bool s.a, .bool s.b]] W (Ret (.agg #[.int .u64 (kcode l), .int .u64 (kcode h)]) W) := fun W => refOf_is s.lo s.hi s.a s.b (some (l, h)) W l1 l2 HRR
    have HR2 : Hid (∀ j : Nat, j < k + 1 → ∀ y, ss[j]? = some y → y.rg.isNone = false) := hid fun j hj y hy => by
     by_cases h : j < k
     ·exact HR.out j h y hy
     ·obtain rfl : j = k := by omega
      rw [hx.out] at hy; cases hy
      show (canonS s.lo s.hi s.a s.b).isNone = false
      rw [hr]; rfl
    clear hr
    go_wp2_with (first | (go_at_call 36; (with_reducible refine (HOf _).mono ?_); rintro e w1 ⟨rfl, hb1⟩; refine mB hb1 ?_; intro hc1 hf1 hz1; intros; (try have hu1_wr_0 : wr.heap.size < w1.heap.size := by omega); (try have hu1_wr_1 : wr.heap.size + 1 < w1.heap.size := by omega)) | (go_at_call 35; (with_reducible refine (refEmpty_some l h (hid hle) _).mono ?_); rintro e w2 ⟨rfl, hb2⟩; refine mB hb2 ?_; intro hc2 hf2 hz2; intros; (try have hu2_wr_0 : wr.heap.size < w2.heap.size := by omega); (try have hu2_wr_1 : wr.heap.size + 1 < w2.heap.size := by omega)))
    go_roundw
    case rel => exact ⟨k + 1, by omega, by go_num, HR2, (by (repeat (first | with_reducible exact Below.refl _ _ | ((with_reducible refine Below.alloc1 ?_ ?_ _); (· first | omega | (simp; done) | (simp; omega))) | (with_reducible refine Below.drew ?_) | (with_reducible refine below_drewN' ?_ _) | ((with_reducible refine Below.setCell1 ?_ ?_ _); (· first | omega | (simp; done) | (simp; omega))) | ((with_reducible refine Below.after (by assumption) ?_ ?_); (· first | omega | (simp; done) | (simp; omega))))); exact hb)⟩
    case measure => simp [intOf]; omega
  ·obtain rfl : k = n2 := by omega
   have hemf : em = false := by
    rw [← HM.out]; unfold hasE
    rw [List.any_eq_false]
    intro x hx
    obtain ⟨j, hj⟩ := List.mem_iff_getElem?.1 hx
    have := (List.getElem?_eq_some_iff.1 hj).1
    rw [HR.out j (by have := HN.out; omega) x hj]; simp
   have hV := HV.out.trans (HQ2.out hemf)
   clear HV HQ HQ2 HR b3 b4 b5
   go_upto_region 12 with fail
   cases o1
   ·have hV' : V = 42 := by rw [hV]; rfl
    subst hV'
    clear hV
    refine wp_region_notesG [Note.val (.pointer (some ⟨w.heap.size, 3, none⟩)), Note.val (.slice ra n1 rc), Note.val (.pointer (some ⟨w.heap.size, 3, none⟩)), Note.val (.slice ra n1 rc), Note.fits (FloatsRow L1) (fun _ _ _ h hb => h.below hb), Note.val (.bool false), Note.val (.bool true), Note.val (.bool true), Note.val undef, Note.val undef, Note.val undef, Note.val undef, Note.val undef, Note.val undef, Note.val undef, Note.val (.bool true), Note.val (.bool true), Note.val undef, Note.val undef, Note.val undef, Note.val undef, Note.val undef, Note.val undef, Note.val undef, Note.val undef, Note.val (.bool true)] rfl (by kernel_rfl) (by kernel_rfl) ?_ ?_
    ·simp only [List.length_cons, List.length_nil, Nat.reduceAdd, List.take_succ_cons, List.take_zero, StepsG, List.nil_append, List.cons_append]
     refine ⟨?_, ?_, ?_, ?_, ?_, ?_, ?_, ?_, ?_, ?_, ?_, ?_, ?_, ?_, ?_, ?_, ?_, ?_, ?_, ?_, ?_, ?_, ?_, ?_, ?_, ?_, trivial⟩
     ·exact mGq
     ·exact mGq
     ·exact mGq
     ·exact mGq
     ·refine mG ?_; intro u w5 hb5; intros; obtain ⟨hc5, hf5⟩ := bcell hb5; have hz5 := hb5.size
      go_wp2_with (go_at_call 38; (with_reducible refine (Hs1 _ (by exact below_auto)).mono ?_); rintro e wy ⟨vy, rfl, hpy, hby⟩)
      exact ⟨rfl, by exact below_auto, by assumption⟩
     ·refine mG ?_; intro u w5 hb5; intros; obtain ⟨hc5, hf5⟩ := bcell hb5; have hz5 := hb5.size
      go_wp2_with (go_at_call 37; (with_reducible refine (Hk1 _ _ (by assumption) (by exact below_auto)).mono ?_); rintro e wy ⟨rfl, hby⟩)
      exact ⟨rfl, by exact below_auto, rfl⟩
     ·exact mGq
     ·exact mGq
     ·exact StepG.off rfl rfl (by decide) rfl
     ·exact StepG.off rfl rfl (by decide) rfl
     ·exact StepG.off rfl rfl (by decide) rfl
     ·exact StepG.off rfl rfl (by decide) rfl
     ·exact StepG.off rfl rfl (by decide) rfl
     ·exact StepG.off rfl rfl (by decide) rfl
     ·exact StepG.off rfl rfl (by decide) rfl
     ·exact mGq
     ·exact mGq
     ·exact StepG.off rfl rfl (by decide) rfl
     ·exact StepG.off rfl rfl (by decide) rfl
     ·exact StepG.off rfl rfl (by decide) rfl
     ·exact StepG.off rfl rfl (by decide) rfl
     ·exact StepG.off rfl rfl (by decide) rfl
     ·exact StepG.off rfl rfl (by decide) rfl
     ·exact StepG.off rfl rfl (by decide) rfl
     ·exact StepG.off rfl rfl (by decide) rfl
     ·exact mGq
    ·intro u w5 hb5 hph hap
     obtain ⟨hc5, hf5⟩ := bcell hb5
     have hz5 := hb5.size
     have hp0 := hph 0 (by simp)
     have hp1 := hph 1 (by simp)
     have hp2 := hph 2 (by simp)
     have hp3 := hph 3 (by simp)
     have hp4 := hph 4 (by simp)
     have hp5 := hph 5 (by simp)
     have hp6 := hph 6 (by simp)
     have hp7 := hph 7 (by simp)
     have hp8 := hph 8 (by simp)
     have hp9 := hph 9 (by simp)
     have hp10 := hph 10 (by simp)
     have hp11 := hph 11 (by simp)
     have hp12 := hph 12 (by simp)
     have hp13 := hph 13 (by simp)
     have hp14 := hph 14 (by simp)
     have hp15 := hph 15 (by simp)
     have hp16 := hph 16 (by simp)
     have hp17 := hph 17 (by simp)
     have hp18 := hph 18 (by simp)
     have hp19 := hph 19 (by simp)
     have hp20 := hph 20 (by simp)
     have hp21 := hph 21 (by simp)
     have hp22 := hph 22 (by simp)
     have hp23 := hph 23 (by simp)
     have hp24 := hph 24 (by simp)
     have hp25 := hph 25 (by simp)
     clear hph hap
     refine mP ?_
     generalize u 0 = u0 at *
     cases hp0
     generalize u 1 = u1 at *
     cases hp1
     generalize u 2 = u2 at *
     cases hp2
     generalize u 3 = u3 at *
     cases hp3
     generalize u 4 = u4 at *
     have hp4 : (FloatsRow L1) u4 w5 := hp4
     generalize u 5 = u5 at *
     cases hp5
     generalize u 6 = u6 at *
     cases hp6
     generalize u 7 = u7 at *
     cases hp7
     generalize u 8 = u8 at *
     cases hp8
     generalize u 9 = u9 at *
     cases hp9
     generalize u 10 = u10 at *
     cases hp10
     generalize u 11 = u11 at *
     cases hp11
     generalize u 12 = u12 at *
     cases hp12
     generalize u 13 = u13 at *
     cases hp13
     generalize u 14 = u14 at *
     cases hp14
     generalize u 15 = u15 at *
     cases hp15
     generalize u 16 = u16 at *
     cases hp16
     generalize u 17 = u17 at *
     cases hp17
     generalize u 18 = u18 at *
     cases hp18
     generalize u 19 = u19 at *
     cases hp19
     generalize u 20 = u20 at *
     cases hp20
     generalize u 21 = u21 at *
     cases hp21
     generalize u 22 = u22 at *
     cases hp22
     generalize u 23 = u23 at *
     cases hp23
     generalize u 24 = u24 at *
     cases hp24
     generalize u 25 = u25 at *
     cases hp25
     clear u
     go_wp2_with fail
     go_ret
     exact ⟨rfl, by exact below_auto⟩
   cases o2
   ·have hV' : V = 42 := by rw [hV]; rfl
    subst hV'
    clear hV
    refine wp_region_notesG [Note.val (.pointer (some ⟨w.heap.size, 3, none⟩)), Note.val (.slice ra n1 rc), Note.val (.pointer (some ⟨w.heap.size, 3, none⟩)), Note.val (.slice ra n1 rc), Note.fits (FloatsRow L1) (fun _ _ _ h hb => h.below hb), Note.val (.bool true), Note.val (.bool false), Note.val (.bool false), Note.val (.pointer (some ⟨w.heap.size, 5, none⟩)), Note.val (.slice wa n3 wc), Note.val (.pointer (some ⟨w.heap.size, 5, none⟩)), Note.val (.slice wa n3 wc), Note.fits (FloatsRow L3) (fun _ _ _ h hb => h.below hb), Note.val (.bool false), Note.val (.bool true), Note.val (.bool true), Note.val (.bool true), Note.val undef, Note.val undef, Note.val undef, Note.val undef, Note.val undef, Note.val undef, Note.val undef, Note.val undef, Note.val (.bool true)] rfl (by kernel_rfl) (by kernel_rfl) ?_ ?_
    ·simp only [List.length_cons, List.length_nil, Nat.reduceAdd, List.take_succ_cons, List.take_zero, StepsG, List.nil_append, List.cons_append]
     refine ⟨?_, ?_, ?_, ?_, ?_, ?_, ?_, ?_, ?_, ?_, ?_, ?_, ?_, ?_, ?_, ?_, ?_, ?_, ?_, ?_, ?_, ?_, ?_, ?_, ?_, ?_, trivial⟩
     ·exact mGq
     ·exact mGq
     ·exact mGq
     ·exact mGq
     ·refine mG ?_; intro u w5 hb5; intros; obtain ⟨hc5, hf5⟩ := bcell hb5; have hz5 := hb5.size
      go_wp2_with (go_at_call 38; (with_reducible refine (Hs1 _ (by exact below_auto)).mono ?_); rintro e wy ⟨vy, rfl, hpy, hby⟩)
      exact ⟨rfl, by exact below_auto, by assumption⟩
     ·refine mG ?_; intro u w5 hb5; intros; obtain ⟨hc5, hf5⟩ := bcell hb5; have hz5 := hb5.size
      go_wp2_with (go_at_call 37; (with_reducible refine (Hk1 _ _ (by assumption) (by exact below_auto)).mono ?_); rintro e wy ⟨rfl, hby⟩)
      exact ⟨rfl, by exact below_auto, rfl⟩
     ·exact mGq
     ·exact mGq
     ·exact mGq
     ·exact mGq
     ·exact mGq
     ·exact mGq
     ·refine mG ?_; intro u w5 hb5; intros; obtain ⟨hc5, hf5⟩ := bcell hb5; have hz5 := hb5.size
      go_wp2_with (go_at_call 38; (with_reducible refine (Hs2 _ (by exact below_auto)).mono ?_); rintro e wy ⟨vy, rfl, hpy, hby⟩)
      exact ⟨rfl, by exact below_auto, by assumption⟩
     ·refine mG ?_; intro u w5 hb5; intros; obtain ⟨hc5, hf5⟩ := bcell hb5; have hz5 := hb5.size
      go_wp2_with (go_at_call 37; (with_reducible refine (Hk2 _ _ (by assumption) (by exact below_auto)).mono ?_); rintro e wy ⟨rfl, hby⟩)
      exact ⟨rfl, by exact below_auto, rfl⟩
     ·exact mGq
     ·exact mGq
     ·exact mGq
     ·exact StepG.off rfl rfl (by decide) rfl
     ·exact StepG.off rfl rfl (by decide) rfl
     ·exact StepG.off rfl rfl (by decide) rfl
     ·exact StepG.off rfl rfl (by decide) rfl
     ·exact StepG.off rfl rfl (by decide) rfl
     ·exact StepG.off rfl rfl (by decide) rfl
     ·exact StepG.off rfl rfl (by decide) rfl
     ·exact StepG.off rfl rfl (by decide) rfl
     ·exact mGq
    ·intro u w5 hb5 hph hap
     obtain ⟨hc5, hf5⟩ := bcell hb5
     have hz5 := hb5.size
     have hp0 := hph 0 (by simp)
     have hp1 := hph 1 (by simp)
     have hp2 := hph 2 (by simp)
     have hp3 := hph 3 (by simp)
     have hp4 := hph 4 (by simp)
     have hp5 := hph 5 (by simp)
     have hp6 := hph 6 (by simp)
     have hp7 := hph 7 (by simp)
     have hp8 := hph 8 (by simp)
     have hp9 := hph 9 (by simp)
     have hp10 := hph 10 (by simp)
     have hp11 := hph 11 (by simp)
     have hp12 := hph 12 (by simp)
     have hp13 := hph 13 (by simp)
     have hp14 := hph 14 (by simp)
     have hp15 := hph 15 (by simp)
     have hp16 := hph 16 (by simp)
     have hp17 := hph 17 (by simp)
     have hp18 := hph 18 (by simp)
     have hp19 := hph 19 (by simp)
     have hp20 := hph 20 (by simp)
     have hp21 := hph 21 (by simp)
     have hp22 := hph 22 (by simp)
     have hp23 := hph 23 (by simp)
     have hp24 := hph 24 (by simp)
     have hp25 := hph 25 (by simp)
     clear hph hap
     refine mP ?_
     generalize u 0 = u0 at *
     cases hp0
     generalize u 1 = u1 at *
     cases hp1
     generalize u 2 = u2 at *
     cases hp2
     generalize u 3 = u3 at *
     cases hp3
     generalize u 4 = u4 at *
     have hp4 : (FloatsRow L1) u4 w5 := hp4
     generalize u 5 = u5 at *
     cases hp5
     generalize u 6 = u6 at *
     cases hp6
     generalize u 7 = u7 at *
     cases hp7
     generalize u 8 = u8 at *
     cases hp8
     generalize u 9 = u9 at *
     cases hp9
     generalize u 10 = u10 at *
     cases hp10
     generalize u 11 = u11 at *
     cases hp11
     generalize u 12 = u12 at *
     have hp12 : (FloatsRow L3) u12 w5 := hp12
     generalize u 13 = u13 at *
     cases hp13
     generalize u 14 = u14 at *
     cases hp14
     generalize u 15 = u15 at *
     cases hp15
     generalize u 16 = u16 at *
     cases hp16
     generalize u 17 = u17 at *
     cases hp17
     generalize u 18 = u18 at *
     cases hp18
     generalize u 19 = u19 at *
     cases hp19
     generalize u 20 = u20 at *
     cases hp20
     generalize u 21 = u21 at *
     cases hp21
     generalize u 22 = u22 at *
     cases hp22
     generalize u 23 = u23 at *
     cases hp23
     generalize u 24 = u24 at *
     cases hp24
     generalize u 25 = u25 at *
     cases hp25
     clear u
     go_wp2_with fail
     go_ret
     exact ⟨rfl, by exact below_auto⟩
   cases o3
   ·have hV' : V = 42 := by rw [hV]; rfl
    subst hV'
    clear hV
    refine wp_region_notesG [Note.val (.pointer (some ⟨w.heap.size, 3, none⟩)), Note.val (.slice ra n1 rc), Note.val (.pointer (some ⟨w.heap.size, 3, none⟩)), Note.val (.slice ra n1 rc), Note.fits (FloatsRow L1) (fun _ _ _ h hb => h.below hb), Note.val (.bool true), Note.val (.bool false), Note.val (.bool false), Note.val (.pointer (some ⟨w.heap.size, 5, none⟩)), Note.val (.slice wa n3 wc), Note.val (.pointer (some ⟨w.heap.size, 5, none⟩)), Note.val (.slice wa n3 wc), Note.fits (FloatsRow L3) (fun _ _ _ h hb => h.below hb), Note.val (.bool true), Note.val (.bool false), Note.val (.bool false), Note.val (.bool false), Note.val (.pointer (some ⟨w.heap.size, 4, none⟩)), Note.val (.slice sa k sc), Note.val (.pointer (some ⟨w.heap.size, 4, none⟩)), Note.val (.slice sa k sc), Note.fits (RangesRow G) (fun _ _ _ h hb => h.below hb), Note.fits (FormsRow G) (fun _ _ _ h hb => h.below hb), Note.val (.bool false), Note.val (.bool true), Note.val (.bool true)] rfl (by kernel_rfl) (by kernel_rfl) ?_ ?_
    ·simp only [List.length_cons, List.length_nil, Nat.reduceAdd, List.take_succ_cons, List.take_zero, StepsG, List.nil_append, List.cons_append]
     refine ⟨?_, ?_, ?_, ?_, ?_, ?_, ?_, ?_, ?_, ?_, ?_, ?_, ?_, ?_, ?_, ?_, ?_, ?_, ?_, ?_, ?_, ?_, ?_, ?_, ?_, ?_, trivial⟩
     ·exact mGq
     ·exact mGq
     ·exact mGq
     ·exact mGq
     ·refine mG ?_; intro u w5 hb5; intros; obtain ⟨hc5, hf5⟩ := bcell hb5; have hz5 := hb5.size
      go_wp2_with (go_at_call 38; (with_reducible refine (Hs1 _ (by exact below_auto)).mono ?_); rintro e wy ⟨vy, rfl, hpy, hby⟩)
      exact ⟨rfl, by exact below_auto, by assumption⟩
     ·refine mG ?_; intro u w5 hb5; intros; obtain ⟨hc5, hf5⟩ := bcell hb5; have hz5 := hb5.size
      go_wp2_with (go_at_call 37; (with_reducible refine (Hk1 _ _ (by assumption) (by exact below_auto)).mono ?_); rintro e wy ⟨rfl, hby⟩)
      exact ⟨rfl, by exact below_auto, rfl⟩
     ·exact mGq
     ·exact mGq
     ·exact mGq
     ·exact mGq
     ·exact mGq
     ·exact mGq
     ·refine mG ?_; intro u w5 hb5; intros; obtain ⟨hc5, hf5⟩ := bcell hb5; have hz5 := hb5.size
      go_wp2_with (go_at_call 38; (with_reducible refine (Hs2 _ (by exact below_auto)).mono ?_); rintro e wy ⟨vy, rfl, hpy, hby⟩)
      exact ⟨rfl, by exact below_auto, by assumption⟩
     ·refine mG ?_; intro u w5 hb5; intros; obtain ⟨hc5, hf5⟩ := bcell hb5; have hz5 := hb5.size
      go_wp2_with (go_at_call 37; (with_reducible refine (Hk2 _ _ (by assumption) (by exact below_auto)).mono ?_); rintro e wy ⟨rfl, hby⟩)
      exact ⟨rfl, by exact below_auto, rfl⟩
     ·exact mGq
     ·exact mGq
     ·exact mGq
     ·exact mGq
     ·exact mGq
     ·exact mGq
     ·exact mGq
     ·refine mG ?_; intro u w5 hb5; intros; obtain ⟨hc5, hf5⟩ := bcell hb5; have hz5 := hb5.size
      go_wp2_with (go_at_call 41; (with_reducible refine (HrN _ (by exact below_auto)).mono ?_); rintro e wy ⟨vy, rfl, hpy, hby⟩)
      exact ⟨rfl, by exact below_auto, by assumption⟩
     ·refine mG ?_; intro u w5 hb5; intros; obtain ⟨hc5, hf5⟩ := bcell hb5; have hz5 := hb5.size
      go_wp2_with (go_at_call 40; (with_reducible refine (HrS _ _ (by assumption)).mono ?_); rintro e wy ⟨vy, rfl, hpy, hby⟩)
      exact ⟨rfl, by exact below_auto, by assumption⟩
     ·refine mG ?_; intro u w5 hb5; intros; obtain ⟨hc5, hf5⟩ := bcell hb5; have hz5 := hb5.size
      go_wp2_with (go_at_call 39; (with_reducible refine (HrE _ _ (by assumption) (by exact below_auto)).mono ?_); rintro e wy ⟨rfl, hby⟩)
      exact ⟨rfl, by exact below_auto, rfl⟩
     ·exact mGq
     ·exact mGq
    ·intro u w5 hb5 hph hap
     obtain ⟨hc5, hf5⟩ := bcell hb5
     have hz5 := hb5.size
     have hp0 := hph 0 (by simp)
     have hp1 := hph 1 (by simp)
     have hp2 := hph 2 (by simp)
     have hp3 := hph 3 (by simp)
     have hp4 := hph 4 (by simp)
     have hp5 := hph 5 (by simp)
     have hp6 := hph 6 (by simp)
     have hp7 := hph 7 (by simp)
     have hp8 := hph 8 (by simp)
     have hp9 := hph 9 (by simp)
     have hp10 := hph 10 (by simp)
     have hp11 := hph 11 (by simp)
     have hp12 := hph 12 (by simp)
     have hp13 := hph 13 (by simp)
     have hp14 := hph 14 (by simp)
     have hp15 := hph 15 (by simp)
     have hp16 := hph 16 (by simp)
     have hp17 := hph 17 (by simp)
     have hp18 := hph 18 (by simp)
     have hp19 := hph 19 (by simp)
     have hp20 := hph 20 (by simp)
     have hp21 := hph 21 (by simp)
     have hp22 := hph 22 (by simp)
     have hp23 := hph 23 (by simp)
     have hp24 := hph 24 (by simp)
     have hp25 := hph 25 (by simp)
     clear hph hap
     refine mP ?_
     generalize u 0 = u0 at *
     cases hp0
     generalize u 1 = u1 at *
     cases hp1
     generalize u 2 = u2 at *
     cases hp2
     generalize u 3 = u3 at *
     cases hp3
     generalize u 4 = u4 at *
     have hp4 : (FloatsRow L1) u4 w5 := hp4
     generalize u 5 = u5 at *
     cases hp5
     generalize u 6 = u6 at *
     cases hp6
     generalize u 7 = u7 at *
     cases hp7
     generalize u 8 = u8 at *
     cases hp8
     generalize u 9 = u9 at *
     cases hp9
     generalize u 10 = u10 at *
     cases hp10
     generalize u 11 = u11 at *
     cases hp11
     generalize u 12 = u12 at *
     have hp12 : (FloatsRow L3) u12 w5 := hp12
     generalize u 13 = u13 at *
     cases hp13
     generalize u 14 = u14 at *
     cases hp14
     generalize u 15 = u15 at *
     cases hp15
     generalize u 16 = u16 at *
     cases hp16
     generalize u 17 = u17 at *
     cases hp17
     generalize u 18 = u18 at *
     cases hp18
     generalize u 19 = u19 at *
     cases hp19
     generalize u 20 = u20 at *
     cases hp20
     generalize u 21 = u21 at *
     have hp21 : (RangesRow G) u21 w5 := hp21
     generalize u 22 = u22 at *
     have hp22 : (FormsRow G) u22 w5 := hp22
     generalize u 23 = u23 at *
     cases hp23
     generalize u 24 = u24 at *
     cases hp24
     generalize u 25 = u25 at *
     cases hp25
     clear u
     go_wp2_with fail
     go_ret
     exact ⟨rfl, by exact below_auto⟩
   ·have hV' : V = 0 := by rw [hV]; rfl
    subst hV'
    clear hV
    refine wp_region_notesG [Note.val (.pointer (some ⟨w.heap.size, 3, none⟩)), Note.val (.slice ra n1 rc), Note.val (.pointer (some ⟨w.heap.size, 3, none⟩)), Note.val (.slice ra n1 rc), Note.fits (FloatsRow L1) (fun _ _ _ h hb => h.below hb), Note.val (.bool true), Note.val (.bool false), Note.val (.bool false), Note.val (.pointer (some ⟨w.heap.size, 5, none⟩)), Note.val (.slice wa n3 wc), Note.val (.pointer (some ⟨w.heap.size, 5, none⟩)), Note.val (.slice wa n3 wc), Note.fits (FloatsRow L3) (fun _ _ _ h hb => h.below hb), Note.val (.bool true), Note.val (.bool false), Note.val (.bool false), Note.val (.bool false), Note.val (.pointer (some ⟨w.heap.size, 4, none⟩)), Note.val (.slice sa k sc), Note.val (.pointer (some ⟨w.heap.size, 4, none⟩)), Note.val (.slice sa k sc), Note.fits (RangesRow G) (fun _ _ _ h hb => h.below hb), Note.fits (FormsRow G) (fun _ _ _ h hb => h.below hb), Note.val (.bool true), Note.val (.bool false), Note.val (.bool false)] rfl (by kernel_rfl) (by kernel_rfl) ?_ ?_
    ·simp only [List.length_cons, List.length_nil, Nat.reduceAdd, List.take_succ_cons, List.take_zero, StepsG, List.nil_append, List.cons_append]
     refine ⟨?_, ?_, ?_, ?_, ?_, ?_, ?_, ?_, ?_, ?_, ?_, ?_, ?_, ?_, ?_, ?_, ?_, ?_, ?_, ?_, ?_, ?_, ?_, ?_, ?_, ?_, trivial⟩
     ·exact mGq
     ·exact mGq
     ·exact mGq
     ·exact mGq
     ·refine mG ?_; intro u w5 hb5; intros; obtain ⟨hc5, hf5⟩ := bcell hb5; have hz5 := hb5.size
      go_wp2_with (go_at_call 38; (with_reducible refine (Hs1 _ (by exact below_auto)).mono ?_); rintro e wy ⟨vy, rfl, hpy, hby⟩)
      exact ⟨rfl, by exact below_auto, by assumption⟩
     ·refine mG ?_; intro u w5 hb5; intros; obtain ⟨hc5, hf5⟩ := bcell hb5; have hz5 := hb5.size
      go_wp2_with (go_at_call 37; (with_reducible refine (Hk1 _ _ (by assumption) (by exact below_auto)).mono ?_); rintro e wy ⟨rfl, hby⟩)
      exact ⟨rfl, by exact below_auto, rfl⟩
     ·exact mGq
     ·exact mGq
     ·exact mGq
     ·exact mGq
     ·exact mGq
     ·exact mGq
     ·refine mG ?_; intro u w5 hb5; intros; obtain ⟨hc5, hf5⟩ := bcell hb5; have hz5 := hb5.size
      go_wp2_with (go_at_call 38; (with_reducible refine (Hs2 _ (by exact below_auto)).mono ?_); rintro e wy ⟨vy, rfl, hpy, hby⟩)
      exact ⟨rfl, by exact below_auto, by assumption⟩
     ·refine mG ?_; intro u w5 hb5; intros; obtain ⟨hc5, hf5⟩ := bcell hb5; have hz5 := hb5.size
      go_wp2_with (go_at_call 37; (with_reducible refine (Hk2 _ _ (by assumption) (by exact below_auto)).mono ?_); rintro e wy ⟨rfl, hby⟩)
      exact ⟨rfl, by exact below_auto, rfl⟩
     ·exact mGq
     ·exact mGq
     ·exact mGq
     ·exact mGq
     ·exact mGq
     ·exact mGq
     ·exact mGq
     ·refine mG ?_; intro u w5 hb5; intros; obtain ⟨hc5, hf5⟩ := bcell hb5; have hz5 := hb5.size
      go_wp2_with (go_at_call 41; (with_reducible refine (HrN _ (by exact below_auto)).mono ?_); rintro e wy ⟨vy, rfl, hpy, hby⟩)
      exact ⟨rfl, by exact below_auto, by assumption⟩
     ·refine mG ?_; intro u w5 hb5; intros; obtain ⟨hc5, hf5⟩ := bcell hb5; have hz5 := hb5.size
      go_wp2_with (go_at_call 40; (with_reducible refine (HrS _ _ (by assumption)).mono ?_); rintro e wy ⟨vy, rfl, hpy, hby⟩)
      exact ⟨rfl, by exact below_auto, by assumption⟩
     ·refine mG ?_; intro u w5 hb5; intros; obtain ⟨hc5, hf5⟩ := bcell hb5; have hz5 := hb5.size
      go_wp2_with (go_at_call 39; (with_reducible refine (HrE _ _ (by assumption) (by exact below_auto)).mono ?_); rintro e wy ⟨rfl, hby⟩)
      exact ⟨rfl, by exact below_auto, rfl⟩
     ·exact mGq
     ·exact mGq
    ·intro u w5 hb5 hph hap
     obtain ⟨hc5, hf5⟩ := bcell hb5
     have hz5 := hb5.size
     have hp0 := hph 0 (by simp)
     have hp1 := hph 1 (by simp)
     have hp2 := hph 2 (by simp)
     have hp3 := hph 3 (by simp)
     have hp4 := hph 4 (by simp)
     have hp5 := hph 5 (by simp)
     have hp6 := hph 6 (by simp)
     have hp7 := hph 7 (by simp)
     have hp8 := hph 8 (by simp)
     have hp9 := hph 9 (by simp)
     have hp10 := hph 10 (by simp)
     have hp11 := hph 11 (by simp)
     have hp12 := hph 12 (by simp)
     have hp13 := hph 13 (by simp)
     have hp14 := hph 14 (by simp)
     have hp15 := hph 15 (by simp)
     have hp16 := hph 16 (by simp)
     have hp17 := hph 17 (by simp)
     have hp18 := hph 18 (by simp)
     have hp19 := hph 19 (by simp)
     have hp20 := hph 20 (by simp)
     have hp21 := hph 21 (by simp)
     have hp22 := hph 22 (by simp)
     have hp23 := hph 23 (by simp)
     have hp24 := hph 24 (by simp)
     have hp25 := hph 25 (by simp)
     clear hph hap
     refine mP ?_
     generalize u 0 = u0 at *
     cases hp0
     generalize u 1 = u1 at *
     cases hp1
     generalize u 2 = u2 at *
     cases hp2
     generalize u 3 = u3 at *
     cases hp3
     generalize u 4 = u4 at *
     have hp4 : (FloatsRow L1) u4 w5 := hp4
     generalize u 5 = u5 at *
     cases hp5
     generalize u 6 = u6 at *
     cases hp6
     generalize u 7 = u7 at *
     cases hp7
     generalize u 8 = u8 at *
     cases hp8
     generalize u 9 = u9 at *
     cases hp9
     generalize u 10 = u10 at *
     cases hp10
     generalize u 11 = u11 at *
     cases hp11
     generalize u 12 = u12 at *
     have hp12 : (FloatsRow L3) u12 w5 := hp12
     generalize u 13 = u13 at *
     cases hp13
     generalize u 14 = u14 at *
     cases hp14
     generalize u 15 = u15 at *
     cases hp15
     generalize u 16 = u16 at *
     cases hp16
     generalize u 17 = u17 at *
     cases hp17
     generalize u 18 = u18 at *
     cases hp18
     generalize u 19 = u19 at *
     cases hp19
     generalize u 20 = u20 at *
     cases hp20
     generalize u 21 = u21 at *
     have hp21 : (RangesRow G) u21 w5 := hp21
     generalize u 22 = u22 at *
     have hp22 : (FormsRow G) u22 w5 := hp22
     generalize u 23 = u23 at *
     cases hp23
     generalize u 24 = u24 at *
     cases hp24
     generalize u 25 = u25 at *
     cases hp25
     clear u
     go_wp2_with fail
     go_ret
     exact ⟨rfl, by exact below_auto⟩
end Go.Proofs.YtfbachckdadhoaaGreat.K
namespace Go.Proofs.YtfbachckdadhoaaGreat.K
set_option linter.unusedVariables false
open Go.RowKit Fl

theorem mb_false {x : SubV} (h : SubV.mb x = false) : x.rs.length ≤ 16 ∧ x.ss.length ≤ 8 ∧ x.ws.length ≤ 16 := by
 unfold SubV.mb at h
 simp only [Bool.or_eq_false_iff, decide_eq_false_iff_not] at h
 omega
theorem normed_le (ss : List SpanV) : (refAllN [] (N.forms ss)).length ≤ ss.length := by
 have h1 := N.refAllN_len (N.forms ss) []
 have h2 := N.forms_le ss
 simp at h1; omega
theorem check_any (x : SubV) (w : World) (h : x.At w) :
  Calls Tryz.prog 43 #[.agg #[.int .i64 x.s0, .int .i64 x.s1, .int .i64 x.s2, .slice x.ra x.rs.length x.rc, .slice x.sa x.ss.length x.sc, .slice x.wa x.ws.length x.wc]] w (Ret (.int .i64 (SubV.check x)) w) := by
 refine check_w x.s0 x.s1 x.s2 x.ra x.sa x.wa x.rs.length x.ss.length x.ws.length x.rc x.sc x.wc (refAllN [] (N.forms x.ss)) _ _ _ _ _ _ _ _ w (fun W => numbers_any _ _ _ _ _ _ _ _ _ _ _ _ _ rfl W) (fun W => many_any _ _ _ _ _ _ _ _ _ _ _ _ _ rfl W)
  (fun W hb => hasNan_any _ _ _ x.rs _ W rfl (h.r.below hb) rfl) (fun W hb => hasNan_any _ _ _ x.ws _ W rfl (h.w.below hb) rfl) (fun W hb => hasEmpty_any _ _ _ x.ss _ W rfl (h.s.below hb) rfl)
  (fun hm W hb => rising_any _ _ _ x.rs _ W rfl (h.r.below hb) (by have := mb_false (x := x) hm; omega) rfl) (fun hm W hb => rising_any _ _ _ x.ws _ W rfl (h.w.below hb) (by have := mb_false (x := x) hm; omega) rfl)
  (fun hm W hb => (N.norm_any' x.sa x.sc x.ss x.ss.length W rfl (h.s.below hb) (by have := mb_false (x := x) hm; omega)).mono fun e W' ⟨a, c, h1, h2, h3⟩ => ⟨_, h1, ⟨a, c, rfl, N.own_sat h2 (by have := mb_false (x := x) hm; have := normed_le x.ss; omega)⟩, h3⟩)
  (fun v W hv hb => ?_)
 obtain ⟨a, c, rfl, hs⟩ := hv
 exact equalS_any x.sa a x.sc c _ _ x.ss (refAllN [] (N.forms x.ss)) _ W rfl rfl (h.s.below hb) hs rfl

set_option maxHeartbeats 1000000 in
theorem refCheck_nb (s0 s1 s2 : Int) (ra sa wa : Option Addr) (n1 n2 n3 rc sc wc : Nat) (w : World) (hv : (okN s0 1 && okN s1 1 && okN s2 0) = false) :
  Calls Tryz.prog 15 #[.agg #[.int .i64 s0, .int .i64 s1, .int .i64 s2, .slice ra n1 rc, .slice sa n2 sc, .slice wa n3 wc]] w (Ret (.int .i64 43) w) := by
 by_cases h1 : s0 < 1
 ·clear hv
  go_enter Tryz.func15, Tryz.ntmps15
  go_wp2
  go_ret
  exact ⟨rfl, by exact below_auto⟩
 by_cases h2 : (1099511627776 : Int) < s0
 ·clear hv
  go_enter Tryz.func15, Tryz.ntmps15
  go_wp2
  go_ret
  exact ⟨rfl, by exact below_auto⟩
 by_cases h3 : s1 < 1
 ·clear hv
  go_enter Tryz.func15, Tryz.ntmps15
  go_wp2
  go_ret
  exact ⟨rfl, by exact below_auto⟩
 by_cases h4 : (1099511627776 : Int) < s1
 ·clear hv
  go_enter Tryz.func15, Tryz.ntmps15
  go_wp2
  go_ret
  exact ⟨rfl, by exact below_auto⟩
 by_cases h5 : s2 < 0
 ·clear hv
  go_enter Tryz.func15, Tryz.ntmps15
  go_wp2
  go_ret
  exact ⟨rfl, by exact below_auto⟩
 by_cases h6 : (1099511627776 : Int) < s2
 ·clear hv
  go_enter Tryz.func15, Tryz.ntmps15
  go_wp2
  go_ret
  exact ⟨rfl, by exact below_auto⟩
 exfalso
 unfold okN at hv
 rw [decide_eq_true (show (1 : Int) ≤ s0 by omega), decide_eq_true (show s0 ≤ 1099511627776 by omega), decide_eq_true (show (1 : Int) ≤ s1 by omega), decide_eq_true (show s1 ≤ 1099511627776 by omega), decide_eq_true (show (0 : Int) ≤ s2 by omega), decide_eq_true (show s2 ≤ 1099511627776 by omega)] at hv
 simp at hv
theorem nb_true {s0 s1 s2 : Int} (hv : (okN s0 1 && okN s1 1 && okN s2 0) = true) : (1 : Int) ≤ s0 ∧ s0 ≤ 1099511627776 ∧ (1 : Int) ≤ s1 ∧ s1 ≤ 1099511627776 ∧ (0 : Int) ≤ s2 ∧ s2 ≤ 1099511627776 := by
 unfold okN at hv
 simp only [Bool.and_eq_true, decide_eq_true_eq] at hv
 omega
set_option maxHeartbeats 1000000 in
theorem refCheck_mb (s0 s1 s2 : Int) (ra sa wa : Option Addr) (n1 n2 n3 rc sc wc : Nat) (w : World) (hn : (okN s0 1 && okN s1 1 && okN s2 0) = true) (hv : (decide (16 < n1) || decide (8 < n2) || decide (16 < n3)) = true) :
  Calls Tryz.prog 15 #[.agg #[.int .i64 s0, .int .i64 s1, .int .i64 s2, .slice ra n1 rc, .slice sa n2 sc, .slice wa n3 wc]] w (Ret (.int .i64 3) w) := by
 obtain ⟨k1, k2, k3, k4, k5, k6⟩ := nb_true hn
 have q1 : ¬ s0 < 1 := by omega
 have q2 : ¬ (1099511627776 : Int) < s0 := by omega
 have q3 : ¬ s1 < 1 := by omega
 have q4 : ¬ (1099511627776 : Int) < s1 := by omega
 have q5 : ¬ s2 < 0 := by omega
 have q6 : ¬ (1099511627776 : Int) < s2 := by omega
 clear k1 k2 k3 k4 k5 k6 hn
 by_cases h1 : (16 : Int) < (n1 : Int)
 ·clear hv
  go_enter Tryz.func15, Tryz.ntmps15
  go_wp2
  go_ret
  exact ⟨rfl, by exact below_auto⟩
 by_cases h2 : (8 : Int) < (n2 : Int)
 ·clear hv
  go_enter Tryz.func15, Tryz.ntmps15
  go_wp2
  go_ret
  exact ⟨rfl, by exact below_auto⟩
 by_cases h3 : (16 : Int) < (n3 : Int)
 ·clear hv
  go_enter Tryz.func15, Tryz.ntmps15
  go_wp2
  go_ret
  exact ⟨rfl, by exact below_auto⟩
 exfalso
 rw [decide_eq_false (show ¬ 16 < n1 by omega), decide_eq_false (show ¬ 8 < n2 by omega), decide_eq_false (show ¬ 16 < n3 by omega)] at hv
 simp at hv

theorem refCheck_any (x : SubV) (w : World) (h : x.At w) :
  Calls Tryz.prog 15 #[.agg #[.int .i64 x.s0, .int .i64 x.s1, .int .i64 x.s2, .slice x.ra x.rs.length x.rc, .slice x.sa x.ss.length x.sc, .slice x.wa x.ws.length x.wc]] w (Ret (.int .i64 (SubV.check x)) w) := by
 unfold SubV.check
 cases hnb : SubV.nb x
 ·exact refCheck_nb _ _ _ _ _ _ _ _ _ _ _ _ w hnb
 cases hmb : SubV.mb x
 rotate_left
 ·exact refCheck_mb _ _ _ _ _ _ _ _ _ _ _ _ w hnb hmb
 obtain ⟨k1, k2, k3, k4, k5, k6⟩ := nb_true hnb
 obtain ⟨m1, m2, m3⟩ := mb_false hmb
 refine refCheck_w x.s0 x.s1 x.s2 x.ra x.sa x.wa x.rs.length x.ss.length x.ws.length x.rc x.sc x.wc x.ss (refAllN [] (N.forms x.ss)) (bits (fsort x.rs)) (bits (fsort x.ws)) _ _ _ _ _ _ w k1 k2 k3 k4 k5 k6 m1 m2 m3 (hid rfl) (hid h.s) (hid rfl)
  (fun W hb => refNanL_any _ _ _ x.rs _ W rfl (h.r.below hb) rfl) (fun W hb => refNanL_any _ _ _ x.ws _ W rfl (h.w.below hb) rfl)
  (fun W hb => ?_) (fun W hb => ?_) (fun v W hv hb => ?_) (fun v W hv hb => ?_) (fun W hb => ?_) (fun v W hv => ?_) (fun v W hv hb => ?_)
 ·refine (refSort_any x.ra x.rc _ x.rs W rfl (h.r.below hb) (by omega)).mono fun e W' ⟨a, c, h1, h2, h3⟩ => ?_
  rw [sort_same] at h1 h2
  have := fsort_len x.rs
  exact ⟨_, h1, ⟨a, c, by rw [bits_len], own_fat (bits_len _) h2 (by omega) (bits_lt _)⟩, h3⟩
 ·refine (refSort_any x.wa x.wc _ x.ws W rfl (h.w.below hb) (by omega)).mono fun e W' ⟨a, c, h1, h2, h3⟩ => ?_
  rw [sort_same] at h1 h2
  have := fsort_len x.ws
  exact ⟨_, h1, ⟨a, c, by rw [bits_len], own_fat (bits_len _) h2 (by omega) (bits_lt _)⟩, h3⟩
 ·obtain ⟨a, c, rfl, hf⟩ := hv
  exact sameKeysF _ _ _ _ _ _ x.rs (bits (fsort x.rs)) _ W rfl rfl (h.r.below hb) hf rfl
 ·obtain ⟨a, c, rfl, hf⟩ := hv
  exact sameKeysF _ _ _ _ _ _ x.ws (bits (fsort x.ws)) _ W rfl rfl (h.w.below hb) hf rfl
 ·exact (N.refNorm_any x.sa x.sc x.ss _ W rfl (h.s.below hb) (by omega)).mono fun e W' ⟨a, c, h1, h2, h3⟩ => ⟨_, h1, ⟨_, ⟨a, c, rfl⟩, h2⟩, h3⟩
 ·obtain ⟨base, ⟨a, c, rfl⟩, ho⟩ := hv
  have := normed_le x.ss
  exact (N.refSpans_any a c base _ W ho (by omega)).mono fun e W' ⟨a', c', h1, h2, h3⟩ => ⟨_, h1, ⟨a', c', rfl, N.own_sat h2 (by omega)⟩, h3⟩
 ·obtain ⟨a, c, rfl, hs⟩ := hv
  exact N.refSameS_any x.sa a x.sc c _ _ x.ss _ _ W rfl (by simp) (h.s.below hb) hs (by unfold ordS; rw [decide_eq_true_eq])
end Go.Proofs.YtfbachckdadhoaaGreat.K
