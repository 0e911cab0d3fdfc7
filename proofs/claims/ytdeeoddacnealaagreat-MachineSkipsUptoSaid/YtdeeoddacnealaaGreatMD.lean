/- Several texts as one: DA1 DA2 DA3 DE DC0 DB2. -/
import Derived.Test.YtdeeoddacnealaaGreatQ0
import Derived.Test.YtdeeoddacnealaaGreatMFL
import Derived.Test.YtdeeoddacnealaaGreatChecked
import Derived.WalkKit
import Derived.WalkLawsBesides
import Derived.WalkSpells
import Derived.Deep.QuietTactic
import Derived.BigQuiet
import Derived.Test.YtdeeoddacnealaaGreatMA
import Derived.Test.YtdeeoddacnealaaGreatMC0
set_option linter.unusedVariables false
namespace Go.Proofs.YtdeeoddacnealaaGreat.D

structure Below (B:Nat) (w w':World):Prop extends Go.RowKit.Below B w w' where
 drawn:w.drawn≤w'.drawn
theorem Below.refl (B:Nat) (w:World):Below B w w:=⟨Go.RowKit.Below.refl B w,Nat.le_refl _⟩
theorem Below.trans {B:Nat} {a b c:World} (h:Below B a b) (k:Below B b c):Below B a c:=⟨h.toBelow.trans k.toBelow,Nat.le_trans h.drawn k.drawn⟩
theorem Below.mono {B B':Nat} {w w':World} (h:Below B w w') (hB:B'≤B):Below B' w w':=⟨h.toBelow.mono hB,h.drawn⟩
theorem Below.drew {B:Nat} {a w:World} (h:Below B a w):Below B a w.drew:=⟨h.toBelow.drew,Nat.le_succ_of_le h.drawn⟩
theorem Below.alloc {B:Nat} {a w:World} (h:Below B a w) (hB:B≤w.heap.size) (o:Obj):Below B a (w.alloc o):=⟨h.toBelow.alloc hB o,h.drawn⟩
theorem Below.setCell {B:Nat} {a w:World} (h:Below B a w) {p:Addr} (hp:B≤p.block) (u:Value):Below B a (w.setCell p u):=⟨h.toBelow.setCell hp u,h.drawn⟩
theorem Below.cell {B:Nat} {w w':World} (h:Below B w w') {p:Addr} (hp:p.block<B):w'.cell? p=w.cell? p:=h.toBelow.cell hp
theorem Below.frozen {B:Nat} {w w':World} (h:Below B w w') {p:Addr} (hp:p.block<B):w'.frozen? p=w.frozen? p:=h.toBelow.frozen hp
open Go.RowKit Fl

attribute [go_sem] Fl.ord_eq Fl.ord_lt Fl.ord_gt Fl.ord_ne Fl.lt_or_eq Fl.gt_or_eq Fl.feq_self Fl.feq_kk Fl.flt_kk Fl.fle_kk Fl.Key.bits_nan Fl.Key.kof_bits

def Ret (v:Value) (w:World) (e:Ending) (w':World):Prop:=e=.returned v∧Below w.heap.size w w'

theorem bcell {W w1:World} (hb:Below W.heap.size W w1):(∀ b o,b<W.heap.size→w1.cell? ⟨b,o,none⟩=W.cell? ⟨b,o,none⟩)∧(∀ b o,b<W.heap.size→w1.frozen? ⟨b,o,none⟩=W.frozen? ⟨b,o,none⟩) :=
 ⟨fun b o h=>hb.cell (p:=⟨b,o,none⟩) h,fun b o h=>hb.frozen (p:=⟨b,o,none⟩) h⟩

theorem mQ {P:Program} {f} {args:Array Value} {w:World} {v:Value} {Ψ:Ending→World→Prop} (h:Calls P f args w (Ret v w)) {Q:World→Prop} (h2:∀ w',Q w') (h1:∀ w',Below w.heap.size w w'→Wrp (Q w')→Ψ (.returned v) w':=by
 intro w' hb hq
 have hz:=hb.size
 obtain ⟨hc,hf⟩:=bcell hb
 (try simp only [qD,qE,qF] at hc hf)
 (try simp at hz)
 (try have hy0:=yA (n:=w.heap.size) hz)
 (try have hy1:=yA (n:=w.heap.size+1) hz)
 (try have hy2:=yA (n:=w.heap.size+2) hz)
 (try have hy3:=yA (n:=w.heap.size+3) hz)
 (try have hx0:=yB (n:=w.heap.size) hz)
 (try have hx1:=yB (n:=w.heap.size+1) hz)
 (try have hx2:=yB (n:=w.heap.size+2) hz)
 (try revert hx2)
 (try revert hx1)
 (try revert hx0)
 (try revert hy3)
 (try revert hy2)
 (try revert hy1)
 (try revert hy0)
 revert hz
 revert hf
 revert hc
 revert hb
 exact hq.out):Calls P f args w Ψ:=h.mono fun e w' hr=>by obtain ⟨rfl,hb⟩:=hr;exact h1 w' hb ⟨h2 w'⟩
theorem Below.after {B C:Nat} {a b c:World} (h:Below C b c) (hc:B≤C) (k:Below B a b):Below B a c:=k.trans (h.mono hc)
theorem Below.alloc1 {B:Nat} {a w:World} (hB:B≤w.heap.size) (h:Below B a w) (o:Obj):Below B a (w.alloc o):=h.alloc hB o
theorem Below.setCell1 {B:Nat} {a w:World} {p:Addr} (hp:B≤p.block) (h:Below B a w) (u:Value):Below B a (w.setCell p u):=h.setCell hp u
theorem below_drewN' {B:Nat} {a w:World} (h:Below B a w) (n:Nat):Below B a (w.drewN n):=⟨⟨h.os,h.tape,h.output,h.size,h.block⟩,Nat.le_trans h.drawn (Nat.le_add_right _ _)⟩

structure Ext (w0:World) where
 w:World
 b:Below w0.heap.size w0 w
@[go_sem] theorem Ext.cell {w0 : World} (x : Ext w0) {b o : Nat} (h : b < w0.heap.size) : x.w.cell? ⟨b, o, none⟩ = w0.cell? ⟨b, o, none⟩ := x.b.cell (p := ⟨b, o, none⟩) h
@[go_sem] theorem Ext.frozen {w0 : World} (x : Ext w0) {b o : Nat} (h : b < w0.heap.size) : x.w.frozen? ⟨b, o, none⟩ = w0.frozen? ⟨b, o, none⟩ := x.b.frozen (p := ⟨b, o, none⟩) h
instance {w0:World}:Nonempty (Ext w0):=⟨⟨w0,Below.refl _ _⟩⟩

theorem Calls.ext_of {P:Program} {f:FuncId} {args:Array Value} {w0:World} {x:Ext w0} {v:Value} (h:Calls P f args x.w (Ret v x.w)) :
  Calls P f args x.w fun e w''=>e=.returned v∧∃ y:Ext w0,w''=y.w :=
 h.mono fun _ w'' ⟨he,hb⟩=>⟨he,⟨w'',x.b.trans (hb.mono x.b.size)⟩,rfl⟩
theorem Calls.ext_same {P:Program} {f:FuncId} {args:Array Value} {w0:World} {x:Ext w0} {v:Value} (h:Calls P f args x.w fun e w'=>e=.returned v∧x.w=w') :
  Calls P f args x.w fun e w''=>e=.returned v∧∃ y:Ext w0,w''=y.w :=
 h.mono fun _ _ ⟨he,hb⟩=>⟨he,x,hb.symm⟩

theorem right_any (lo hi:Nat) (a b:Bool) (w:World) :
  Calls Tryz.prog 218 #[.agg #[.float .f64 lo,.float .f64 hi,.bool a,.bool b]] w (Ret (.bool (!isNaN lo && !isNaN hi)) w):=by
 go_enter Tryz.func218,Tryz.ntmps218
 go_wp2_with (go_at_call 106;(with_reducible refine (isNaN_any _ _).mono ?_);rintro e w' ⟨rfl,rfl⟩)
 all_goals (go_ret;exact ⟨by simp [*],by exact below_auto⟩)

theorem none_any (w:World):Calls Tryz.prog 219 #[] w (Ret (spv none) w):=by
 go_enter Tryz.func219,Tryz.ntmps219
 go_wp2
 exact bodyPost_ret (v:=spv none) (by simp [results,Tryz.results219,go_sem,spv]) rfl ⟨rfl,by exact below_auto⟩

theorem canon_gt (lo hi:Nat) (a b:Bool) (w:World) (hr:(!isNaN lo && !isNaN hi)=true) (h1:flt hi lo=true) :
  Calls Tryz.prog 181 #[.agg #[.float .f64 lo,.float .f64 hi,.bool a,.bool b]] w (Ret (spv none) w):=by
 go_enter Tryz.func181,Tryz.ntmps181
 go_wp2_with (first|(go_at_call 218;with_reducible refine mQ (right_any _ _ _ _ _) ?_;intro w1 hb1 hc1 hf1 hz1;intros)|(go_at_call 219;with_reducible refine mQ (none_any _) ?_;intro w2 hb2 hc2 hf2 hz2;intros))
 exact bodyPost_ret (v:=spv none) (by simp [results,Tryz.results181,go_sem, *]) rfl ⟨rfl,by exact below_auto⟩

theorem canon_wrong (lo hi:Nat) (a b:Bool) (w:World) (hr:(!isNaN lo && !isNaN hi)=false) :
  Calls Tryz.prog 181 #[.agg #[.float .f64 lo,.float .f64 hi,.bool a,.bool b]] w (Ret (spv none) w):=by
 go_enter Tryz.func181,Tryz.ntmps181
 go_wp2_with (first|(go_at_call 218;with_reducible refine mQ (right_any _ _ _ _ _) ?_;intro w1 hb1 hc1 hf1 hz1;intros)|(go_at_call 219;with_reducible refine mQ (none_any _) ?_;intro w2 hb2 hc2 hf2 hz2;intros))
 exact bodyPost_ret (v:=spv none) (by simp [results,Tryz.results181,go_sem, *]) rfl ⟨rfl,by exact below_auto⟩

theorem canon_eqa (lo hi:Nat) (b:Bool) (w:World) (hr:(!isNaN lo && !isNaN hi)=true) (h1:flt hi lo=false) (h2:feq lo hi=true) :
  Calls Tryz.prog 181 #[.agg #[.float .f64 lo,.float .f64 hi,.bool true,.bool b]] w (Ret (spv none) w):=by
 go_enter Tryz.func181,Tryz.ntmps181
 go_wp2_with (first|(go_at_call 218;with_reducible refine mQ (right_any _ _ _ _ _) ?_;intro w1 hb1 hc1 hf1 hz1;intros)|(go_at_call 219;with_reducible refine mQ (none_any _) ?_;intro w2 hb2 hc2 hf2 hz2;intros))
 exact bodyPost_ret (v:=spv none) (by simp [results,Tryz.results181,go_sem, *]) rfl ⟨rfl,by exact below_auto⟩

theorem canon_eqb (lo hi:Nat) (w:World) (hr:(!isNaN lo && !isNaN hi)=true) (h1:flt hi lo=false) (h2:feq lo hi=true) :
  Calls Tryz.prog 181 #[.agg #[.float .f64 lo,.float .f64 hi,.bool false,.bool true]] w (Ret (spv none) w):=by
 go_enter Tryz.func181,Tryz.ntmps181
 go_wp2_with (first|(go_at_call 218;with_reducible refine mQ (right_any _ _ _ _ _) ?_;intro w1 hb1 hc1 hf1 hz1;intros)|(go_at_call 219;with_reducible refine mQ (none_any _) ?_;intro w2 hb2 hc2 hf2 hz2;intros))
 exact bodyPost_ret (v:=spv none) (by simp [results,Tryz.results181,go_sem, *]) rfl ⟨rfl,by exact below_auto⟩

theorem canon_ff (lo hi:Nat) (kl kh:Key) (w:World) (hl:lo<2 ^ 64) (hh:hi<2 ^ 64) (hr:(!isNaN lo && !isNaN hi)=true) (h1:flt hi lo=false) (hb1:cbits lo=kl.bits) (hb2:cbits hi=kh.bits)
  (h4:decide (kh.v<kl.v)=false) :
  Calls Tryz.prog 181 #[.agg #[.float .f64 lo,.float .f64 hi,.bool false,.bool false]] w (Ret (spv (some (kl,kh))) w):=by
 cases h2:feq lo hi
 ·go_enter Tryz.func181,Tryz.ntmps181
  go_wp2_with (first|(go_at_call 218;with_reducible refine mQ (right_any _ _ _ _ _) ?_;intro w1 hb1 hc1 hf1 hz1;intros)|(go_at_call 219;with_reducible refine mQ (none_any _) ?_;intro w2 hb2 hc2 hf2 hz2;intros))
  go_quiet ((go_at_call 195;exact Calls.quiet_of_same ((floCanon_any _ (by assumption) _).mono fun _ _ ⟨hq1,hq2⟩=>⟨hq1,hq2.symm⟩)))
  (refine mZ hb1 ?_;intro hz1;intros)
  go_wp2_with (first|(go_at_call 220;(with_reducible refine (next_any _ _).mono ?_);rintro e w' ⟨rfl,rfl⟩)|(go_at_call 221;(with_reducible refine (prev_any _ _).mono ?_);rintro e w' ⟨rfl,rfl⟩)|(go_at_call 219;with_reducible refine mQ (none_any _) ?_;intro w2 hb2 hc2 hf2 hz2;intros))
  exact bodyPost_ret (v:=spv (some (kl,kh))) (by simp [results,Tryz.results181,go_sem, *]) rfl ⟨rfl,by exact below_auto⟩
 ·go_enter Tryz.func181,Tryz.ntmps181
  go_wp2_with (first|(go_at_call 218;with_reducible refine mQ (right_any _ _ _ _ _) ?_;intro w1 hb1 hc1 hf1 hz1;intros)|(go_at_call 219;with_reducible refine mQ (none_any _) ?_;intro w2 hb2 hc2 hf2 hz2;intros))
  go_quiet ((go_at_call 195;exact Calls.quiet_of_same ((floCanon_any _ (by assumption) _).mono fun _ _ ⟨hq1,hq2⟩=>⟨hq1,hq2.symm⟩)))
  (refine mZ hb1 ?_;intro hz1;intros)
  go_wp2_with (first|(go_at_call 220;(with_reducible refine (next_any _ _).mono ?_);rintro e w' ⟨rfl,rfl⟩)|(go_at_call 221;(with_reducible refine (prev_any _ _).mono ?_);rintro e w' ⟨rfl,rfl⟩)|(go_at_call 219;with_reducible refine mQ (none_any _) ?_;intro w2 hb2 hc2 hf2 hz2;intros))
  exact bodyPost_ret (v:=spv (some (kl,kh))) (by simp [results,Tryz.results181,go_sem, *]) rfl ⟨rfl,by exact below_auto⟩

theorem canon_tf (lo hi:Nat) (kl kh:Key) (w:World) (hl:lo<2 ^ 64) (hh:hi<2 ^ 64) (hr:(!isNaN lo && !isNaN hi)=true) (h1:flt hi lo=false) (h2:feq lo hi=false) (hb1:cbits lo=kl.bits) (hb2:cbits hi=kh.bits)
  (h4:decide (kh.v<(knext kl).v)=false) :
  Calls Tryz.prog 181 #[.agg #[.float .f64 lo,.float .f64 hi,.bool true,.bool false]] w (Ret (spv (some (knext kl,kh))) w):=by
 go_enter Tryz.func181,Tryz.ntmps181
 go_wp2_with (first|(go_at_call 218;with_reducible refine mQ (right_any _ _ _ _ _) ?_;intro w1 hb1 hc1 hf1 hz1;intros)|(go_at_call 219;with_reducible refine mQ (none_any _) ?_;intro w2 hb2 hc2 hf2 hz2;intros))
 go_quiet ((go_at_call 195;exact Calls.quiet_of_same ((floCanon_any _ (by assumption) _).mono fun _ _ ⟨hq1,hq2⟩=>⟨hq1,hq2.symm⟩)))
 (refine mZ hb1 ?_;intro hz1;intros)
 go_wp2_with (first|(go_at_call 220;(with_reducible refine (next_any _ _).mono ?_);rintro e w' ⟨rfl,rfl⟩)|(go_at_call 221;(with_reducible refine (prev_any _ _).mono ?_);rintro e w' ⟨rfl,rfl⟩)|(go_at_call 219;with_reducible refine mQ (none_any _) ?_;intro w2 hb2 hc2 hf2 hz2;intros))
 exact bodyPost_ret (v:=spv (some (knext kl,kh))) (by simp [results,Tryz.results181,go_sem, *]) rfl ⟨rfl,by exact below_auto⟩

theorem canon_ft (lo hi:Nat) (kl kh:Key) (w:World) (hl:lo<2 ^ 64) (hh:hi<2 ^ 64) (hr:(!isNaN lo && !isNaN hi)=true) (h1:flt hi lo=false) (h2:feq lo hi=false) (hb1:cbits lo=kl.bits) (hb2:cbits hi=kh.bits)
  (h3:pbits kh=(kprev kh).bits) (h4:decide ((kprev kh).v<kl.v)=false) :
  Calls Tryz.prog 181 #[.agg #[.float .f64 lo,.float .f64 hi,.bool false,.bool true]] w (Ret (spv (some (kl,kprev kh))) w):=by
 go_enter Tryz.func181,Tryz.ntmps181
 go_wp2_with (first|(go_at_call 218;with_reducible refine mQ (right_any _ _ _ _ _) ?_;intro w1 hb1 hc1 hf1 hz1;intros)|(go_at_call 219;with_reducible refine mQ (none_any _) ?_;intro w2 hb2 hc2 hf2 hz2;intros))
 go_quiet ((go_at_call 195;exact Calls.quiet_of_same ((floCanon_any _ (by assumption) _).mono fun _ _ ⟨hq1,hq2⟩=>⟨hq1,hq2.symm⟩)))
 (refine mZ hb1 ?_;intro hz1;intros)
 go_wp2_with (first|(go_at_call 220;(with_reducible refine (next_any _ _).mono ?_);rintro e w' ⟨rfl,rfl⟩)|(go_at_call 221;(with_reducible refine (prev_any _ _).mono ?_);rintro e w' ⟨rfl,rfl⟩)|(go_at_call 219;with_reducible refine mQ (none_any _) ?_;intro w2 hb2 hc2 hf2 hz2;intros))
 exact bodyPost_ret (v:=spv (some (kl,kprev kh))) (by simp [results,Tryz.results181,go_sem, *]) rfl ⟨rfl,by exact below_auto⟩

theorem canon_tt (lo hi:Nat) (kl kh:Key) (w:World) (hl:lo<2 ^ 64) (hh:hi<2 ^ 64) (hr:(!isNaN lo && !isNaN hi)=true) (h1:flt hi lo=false) (h2:feq lo hi=false) (hb1:cbits lo=kl.bits) (hb2:cbits hi=kh.bits)
  (h3:pbits kh=(kprev kh).bits) (h4:decide ((kprev kh).v<(knext kl).v)=false) :
  Calls Tryz.prog 181 #[.agg #[.float .f64 lo,.float .f64 hi,.bool true,.bool true]] w (Ret (spv (some (knext kl,kprev kh))) w):=by
 go_enter Tryz.func181,Tryz.ntmps181
 go_wp2_with (first|(go_at_call 218;with_reducible refine mQ (right_any _ _ _ _ _) ?_;intro w1 hb1 hc1 hf1 hz1;intros)|(go_at_call 219;with_reducible refine mQ (none_any _) ?_;intro w2 hb2 hc2 hf2 hz2;intros))
 go_quiet ((go_at_call 195;exact Calls.quiet_of_same ((floCanon_any _ (by assumption) _).mono fun _ _ ⟨hq1,hq2⟩=>⟨hq1,hq2.symm⟩)))
 (refine mZ hb1 ?_;intro hz1;intros)
 go_wp2_with (first|(go_at_call 220;(with_reducible refine (next_any _ _).mono ?_);rintro e w' ⟨rfl,rfl⟩)|(go_at_call 221;(with_reducible refine (prev_any _ _).mono ?_);rintro e w' ⟨rfl,rfl⟩)|(go_at_call 219;with_reducible refine mQ (none_any _) ?_;intro w2 hb2 hc2 hf2 hz2;intros))
 exact bodyPost_ret (v:=spv (some (knext kl,kprev kh))) (by simp [results,Tryz.results181,go_sem, *]) rfl ⟨rfl,by exact below_auto⟩

theorem canon_tn (lo hi:Nat) (kl kh:Key) (w:World) (hl:lo<2 ^ 64) (hh:hi<2 ^ 64) (hr:(!isNaN lo && !isNaN hi)=true) (h1:flt hi lo=false) (h2:feq lo hi=false) (hb1:cbits lo=kl.bits) (hb2:cbits hi=kh.bits)
  (h3:pbits kh=(kprev kh).bits) (h4:decide ((kprev kh).v<(knext kl).v)=true) :
  Calls Tryz.prog 181 #[.agg #[.float .f64 lo,.float .f64 hi,.bool true,.bool true]] w (Ret (spv none) w):=by
 go_enter Tryz.func181,Tryz.ntmps181
 go_wp2_with (first|(go_at_call 218;with_reducible refine mQ (right_any _ _ _ _ _) ?_;intro w1 hb1 hc1 hf1 hz1;intros)|(go_at_call 219;with_reducible refine mQ (none_any _) ?_;intro w2 hb2 hc2 hf2 hz2;intros))
 go_quiet ((go_at_call 195;exact Calls.quiet_of_same ((floCanon_any _ (by assumption) _).mono fun _ _ ⟨hq1,hq2⟩=>⟨hq1,hq2.symm⟩)))
 (refine mZ hb1 ?_;intro hz1;intros)
 go_wp2_with (first|(go_at_call 220;(with_reducible refine (next_any _ _).mono ?_);rintro e w' ⟨rfl,rfl⟩)|(go_at_call 221;(with_reducible refine (prev_any _ _).mono ?_);rintro e w' ⟨rfl,rfl⟩)|(go_at_call 219;with_reducible refine mQ (none_any _) ?_;intro w2 hb2 hc2 hf2 hz2;intros))
 exact bodyPost_ret (v:=spv none) (by simp [results,Tryz.results181,go_sem, *]) rfl ⟨rfl,by exact below_auto⟩

theorem canon_any (lo hi:Nat) (a b:Bool) (w:World) (hl:lo<2 ^ 64) (hh:hi<2 ^ 64) :
  Calls Tryz.prog 181 #[.agg #[.float .f64 lo,.float .f64 hi,.bool a,.bool b]] w (Ret (spv (canonS lo hi a b)) w):=by
 cases hnl:isNaN lo
 ·cases hnh:isNaN hi
  ·have hr:(!isNaN lo && !isNaN hi)=true:=by simp [hnl,hnh]
   by_cases hgt:(kof hi).v<(kof lo).v
   ·have e:canonS lo hi a b=none:=by
     unfold canonS;rw [if_neg (by simp [hnl,hnh]),dif_neg]
     cases a <;> cases b <;> simp <;> omega
    rw [e]
    exact canon_gt lo hi a b w hr (by simp [flt,hnl,hnh,hgt])
   ·have h1:flt hi lo=false:=by simp [flt,hnl,hnh,hgt]
    have hb1:cbits lo=(kof lo).bits:=cbits_num hnl
    have hb2:cbits hi=(kof hi).bits:=cbits_num hnh
    by_cases heq:(kof lo).v=(kof hi).v
    ·have h2:feq lo hi=true:=by simp [feq,hnl,hnh,heq]
     cases a
     ·cases b
      ·have e:canonS lo hi false false=some (kof lo,kof hi):=by
        unfold canonS;rw [if_neg (by simp [hnl,hnh]),dif_pos (by simp;omega)];simp
       rw [e]
       exact canon_ff lo hi _ _ w hl hh hr h1 hb1 hb2 (by simp;omega)
      ·have e:canonS lo hi false true=none:=by
        unfold canonS;rw [if_neg (by simp [hnl,hnh]),dif_neg];simp;omega
       rw [e]
       exact canon_eqb lo hi w hr h1 h2
     ·have e:canonS lo hi true b=none:=by
       unfold canonS;rw [if_neg (by simp [hnl,hnh]),dif_neg];cases b <;> simp <;> omega
      rw [e]
      exact canon_eqa lo hi b w hr h1 h2
    ·have h2:feq lo hi=false:=by simp [feq,hnl,hnh,heq]
     have n1:(kof lo).v≠(inf:Int):=by have:=(kof hi).hi;omega
     have n2:(kof hi).v≠-(inf:Int):=by have:=(kof lo).lo;omega
     have h3:pbits (kof hi)=(kprev (kof hi)).bits:=by simp [pbits,n2]
     have n3:=knext_v n1
     have n4:=kprev_v n2
     cases a
     ·cases b
      ·have e:canonS lo hi false false=some (kof lo,kof hi):=by
        unfold canonS;rw [if_neg (by simp [hnl,hnh]),dif_pos (by simp;omega)];simp
       rw [e]
       exact canon_ff lo hi _ _ w hl hh hr h1 hb1 hb2 (by simp;omega)
      ·have e:canonS lo hi false true=some (kof lo,kprev (kof hi)):=by
        unfold canonS;rw [if_neg (by simp [hnl,hnh]),dif_pos (by simp;omega)]
        simp [Key.eq_iff,n4]
       rw [e]
       exact canon_ft lo hi _ _ w hl hh hr h1 h2 hb1 hb2 h3 (by simp;omega)
     ·cases b
      ·have e:canonS lo hi true false=some (knext (kof lo),kof hi):=by
        unfold canonS;rw [if_neg (by simp [hnl,hnh]),dif_pos (by simp;omega)]
        simp [Key.eq_iff,n3]
       rw [e]
       exact canon_tf lo hi _ _ w hl hh hr h1 h2 hb1 hb2 (by simp;omega)
      ·by_cases h5:(kprev (kof hi)).v<(knext (kof lo)).v
       ·have e:canonS lo hi true true=none:=by
         unfold canonS;rw [if_neg (by simp [hnl,hnh]),dif_neg];simp;omega
        rw [e]
        exact canon_tn lo hi _ _ w hl hh hr h1 h2 hb1 hb2 h3 (by simp;omega)
       ·have e:canonS lo hi true true=some (knext (kof lo),kprev (kof hi)):=by
         unfold canonS;rw [if_neg (by simp [hnl,hnh]),dif_pos (by simp;omega)]
         simp [Key.eq_iff,n3,n4]
        rw [e]
        exact canon_tt lo hi _ _ w hl hh hr h1 h2 hb1 hb2 h3 (by simp;omega)
  ·have e:canonS lo hi a b=none:=by simp [canonS,hnh]
   rw [e]
   exact canon_wrong lo hi a b w (by simp [hnh])
 ·have e:canonS lo hi a b=none:=by simp [canonS,hnl]
  rw [e]
  exact canon_wrong lo hi a b w (by simp [hnl])

theorem canon_is (lo hi:Nat) (a b:Bool) (r:Rg) (w:World) (hl:lo<2 ^ 64) (hh:hi<2 ^ 64) (hr:Hid (canonS lo hi a b=r)) :
  Calls Tryz.prog 181 #[.agg #[.float .f64 lo,.float .f64 hi,.bool a,.bool b]] w (Ret (spv r) w):=by
 have h:=canon_any lo hi a b w hl hh
 rw [hr.out] at h
 exact h

theorem wp_region_ext_tail {P:Program} {id:Nat} {Q:Exit→Act→World→Prop} {a:Act} {w:World} {l:List Oper} (n:Nat) (hm:P.follows .mixedOrders=true) (hB:Region.lexTailB .any l.toArray n=true)
  (hH:(Region.lexB .any (l.take n).toArray && headFwd .any (l.take n) && Region.seqB .any l.toArray (l.length-n) n ((List.replicate n true++List.replicate (l.length-n) false).toArray))=true)
  (h:wpQuiet P (l.take n).toArray (fun w'=>∃ x:Ext w,w'=x.w) (fun a'=>∀ w',(∃ x:Ext w,w'=x.w)→wpList P l.toArray Q (l.drop n) a' w') (l.take n) a):(Code.region id l.toArray true).wp P Q a w :=
 wp_region_tail (C:=fun w'=>∃ x:Ext w,w'=x.w) n hm hB hH ⟨⟨_,(Below.refl _ _).drew⟩,rfl⟩ h

theorem canon_isN (lo hi:Nat) (a b:Bool) (w:World) (hl:lo<2 ^ 64) (hh:hi<2 ^ 64) (hr:Hid (canonS lo hi a b=none)) :
  Calls Tryz.prog 181 #[.agg #[.float .f64 lo,.float .f64 hi,.bool a,.bool b]] w (Ret (.agg #[.float .f64 0,.float .f64 0,.bool true,.bool true]) w):=canon_is lo hi a b none w hl hh hr
theorem canon_isS (lo hi:Nat) (a b:Bool) (l h:Key) (w:World) (hl:lo<2 ^ 64) (hh:hi<2 ^ 64) (hr:Hid (canonS lo hi a b=some (l,h))) :
  Calls Tryz.prog 181 #[.agg #[.float .f64 lo,.float .f64 hi,.bool a,.bool b]] w (Ret (.agg #[.float .f64 l.bits,.float .f64 h.bits,.bool false,.bool false]) w):=canon_is lo hi a b (some (l,h)) w hl hh hr

set_option maxRecDepth 100000 in
theorem cmp_nn (lo hi lo' hi':Nat) (a b a' b':Bool) (w:World) (hl:lo<2 ^ 64) (hh:hi<2 ^ 64) (hl':lo'<2 ^ 64) (hh':hi'<2 ^ 64) (hr:Hid (canonS lo hi a b=none)) (hr':Hid (canonS lo' hi' a' b'=none)) :
  Calls Tryz.prog 159 #[.agg #[.float .f64 lo,.float .f64 hi,.bool a,.bool b],.agg #[.float .f64 lo',.float .f64 hi',.bool a',.bool b']] w (Ret (.int .i64 0) w):=by
 go_enter Tryz.func159,Tryz.ntmps159
 go_wp2_with fail
 (refine wp_region_ext_tail 4 (by kernel_rfl) (by kernel_rfl) (by kernel_rfl) ?_;simp only [List.take_succ_cons,List.take_zero,List.drop_succ_cons,List.drop_zero];(repeat (go_big_quiet_step (first|(go_at_call 181;with_reducible exact Calls.ext_of (canon_isN _ _ _ _ _ (by assumption) (by assumption) (by assumption))))));refine mX ?_;intro w1 hb1 hc1 hf1 hz1;intros)
 (have cc1_0_0:=hc1 (w.heap.size) 0 lt_auto;have cf1_0_0:=hf1 (w.heap.size) 0 lt_auto;have cc1_0_1:=hc1 (w.heap.size) 1 lt_auto;have cf1_0_1:=hf1 (w.heap.size) 1 lt_auto;have cc1_0_2:=hc1 (w.heap.size) 2 lt_auto;have cf1_0_2:=hf1 (w.heap.size) 2 lt_auto;have cc1_0_3:=hc1 (w.heap.size) 3 lt_auto;have cf1_0_3:=hf1 (w.heap.size) 3 lt_auto;have cc1_1_0:=hc1 (w.heap.size+1) 0 lt_auto;have cf1_1_0:=hf1 (w.heap.size+1) 0 lt_auto;have cc1_1_1:=hc1 (w.heap.size+1) 1 lt_auto;have cf1_1_1:=hf1 (w.heap.size+1) 1 lt_auto;have cc1_1_2:=hc1 (w.heap.size+1) 2 lt_auto;have cf1_1_2:=hf1 (w.heap.size+1) 2 lt_auto;have cc1_1_3:=hc1 (w.heap.size+1) 3 lt_auto;have cf1_1_3:=hf1 (w.heap.size+1) 3 lt_auto;clear hc1 hf1;simp [go_sem] at cc1_0_0 cf1_0_0 cc1_0_1 cf1_0_1 cc1_0_2 cf1_0_2 cc1_0_3 cf1_0_3 cc1_1_0 cf1_1_0 cc1_1_1 cf1_1_1 cc1_1_2 cf1_1_2 cc1_1_3 cf1_1_3)
 go_wp2
 go_ret
 exact ⟨ret_int rfl,by exact below_auto⟩

set_option maxRecDepth 100000 in
theorem cmp_ns (lo hi lo' hi':Nat) (a b a' b':Bool) (w:World) (hl:lo<2 ^ 64) (hh:hi<2 ^ 64) (hl':lo'<2 ^ 64) (hh':hi'<2 ^ 64) (hr:Hid (canonS lo hi a b=none)) (l' h':Key) (hr':Hid (canonS lo' hi' a' b'=some (l',h'))) :
  Calls Tryz.prog 159 #[.agg #[.float .f64 lo,.float .f64 hi,.bool a,.bool b],.agg #[.float .f64 lo',.float .f64 hi',.bool a',.bool b']] w (Ret (.int .i64 (-1)) w):=by
 go_enter Tryz.func159,Tryz.ntmps159
 go_wp2_with fail
 (refine wp_region_ext_tail 4 (by kernel_rfl) (by kernel_rfl) (by kernel_rfl) ?_;simp only [List.take_succ_cons,List.take_zero,List.drop_succ_cons,List.drop_zero];(repeat (go_big_quiet_step (first|(go_at_call 181;with_reducible exact Calls.ext_of (canon_isN lo hi a b _ (by assumption) (by assumption) hr))|(go_at_call 181;with_reducible exact Calls.ext_of (canon_isS lo' hi' a' b' l' h' _ (by assumption) (by assumption) hr')))));refine mX ?_;intro w1 hb1 hc1 hf1 hz1;intros)
 (have cc1_0_0:=hc1 (w.heap.size) 0 lt_auto;have cf1_0_0:=hf1 (w.heap.size) 0 lt_auto;have cc1_0_1:=hc1 (w.heap.size) 1 lt_auto;have cf1_0_1:=hf1 (w.heap.size) 1 lt_auto;have cc1_0_2:=hc1 (w.heap.size) 2 lt_auto;have cf1_0_2:=hf1 (w.heap.size) 2 lt_auto;have cc1_0_3:=hc1 (w.heap.size) 3 lt_auto;have cf1_0_3:=hf1 (w.heap.size) 3 lt_auto;have cc1_1_0:=hc1 (w.heap.size+1) 0 lt_auto;have cf1_1_0:=hf1 (w.heap.size+1) 0 lt_auto;have cc1_1_1:=hc1 (w.heap.size+1) 1 lt_auto;have cf1_1_1:=hf1 (w.heap.size+1) 1 lt_auto;have cc1_1_2:=hc1 (w.heap.size+1) 2 lt_auto;have cf1_1_2:=hf1 (w.heap.size+1) 2 lt_auto;have cc1_1_3:=hc1 (w.heap.size+1) 3 lt_auto;have cf1_1_3:=hf1 (w.heap.size+1) 3 lt_auto;clear hc1 hf1;simp [go_sem] at cc1_0_0 cf1_0_0 cc1_0_1 cf1_0_1 cc1_0_2 cf1_0_2 cc1_0_3 cf1_0_3 cc1_1_0 cf1_1_0 cc1_1_1 cf1_1_1 cc1_1_2 cf1_1_2 cc1_1_3 cf1_1_3)
 go_wp2
 go_ret
 exact ⟨ret_int rfl,by exact below_auto⟩

set_option maxRecDepth 100000 in
theorem cmp_sn (lo hi lo' hi':Nat) (a b a' b':Bool) (w:World) (hl:lo<2 ^ 64) (hh:hi<2 ^ 64) (hl':lo'<2 ^ 64) (hh':hi'<2 ^ 64) (l h:Key) (hr:Hid (canonS lo hi a b=some (l,h))) (hr':Hid (canonS lo' hi' a' b'=none)) :
  Calls Tryz.prog 159 #[.agg #[.float .f64 lo,.float .f64 hi,.bool a,.bool b],.agg #[.float .f64 lo',.float .f64 hi',.bool a',.bool b']] w (Ret (.int .i64 1) w):=by
 go_enter Tryz.func159,Tryz.ntmps159
 go_wp2_with fail
 (refine wp_region_ext_tail 4 (by kernel_rfl) (by kernel_rfl) (by kernel_rfl) ?_;simp only [List.take_succ_cons,List.take_zero,List.drop_succ_cons,List.drop_zero];(repeat (go_big_quiet_step (first|(go_at_call 181;with_reducible exact Calls.ext_of (canon_isS lo hi a b l h _ (by assumption) (by assumption) hr))|(go_at_call 181;with_reducible exact Calls.ext_of (canon_isN lo' hi' a' b' _ (by assumption) (by assumption) hr')))));refine mX ?_;intro w1 hb1 hc1 hf1 hz1;intros)
 (have cc1_0_0:=hc1 (w.heap.size) 0 lt_auto;have cf1_0_0:=hf1 (w.heap.size) 0 lt_auto;have cc1_0_1:=hc1 (w.heap.size) 1 lt_auto;have cf1_0_1:=hf1 (w.heap.size) 1 lt_auto;have cc1_0_2:=hc1 (w.heap.size) 2 lt_auto;have cf1_0_2:=hf1 (w.heap.size) 2 lt_auto;have cc1_0_3:=hc1 (w.heap.size) 3 lt_auto;have cf1_0_3:=hf1 (w.heap.size) 3 lt_auto;have cc1_1_0:=hc1 (w.heap.size+1) 0 lt_auto;have cf1_1_0:=hf1 (w.heap.size+1) 0 lt_auto;have cc1_1_1:=hc1 (w.heap.size+1) 1 lt_auto;have cf1_1_1:=hf1 (w.heap.size+1) 1 lt_auto;have cc1_1_2:=hc1 (w.heap.size+1) 2 lt_auto;have cf1_1_2:=hf1 (w.heap.size+1) 2 lt_auto;have cc1_1_3:=hc1 (w.heap.size+1) 3 lt_auto;have cf1_1_3:=hf1 (w.heap.size+1) 3 lt_auto;clear hc1 hf1;simp [go_sem] at cc1_0_0 cf1_0_0 cc1_0_1 cf1_0_1 cc1_0_2 cf1_0_2 cc1_0_3 cf1_0_3 cc1_1_0 cf1_1_0 cc1_1_1 cf1_1_1 cc1_1_2 cf1_1_2 cc1_1_3 cf1_1_3)
 go_wp2
 go_ret
 exact ⟨ret_int rfl,by exact below_auto⟩

set_option maxRecDepth 100000 in
theorem cmp_ss (lo hi lo' hi':Nat) (a b a' b':Bool) (w:World) (hl:lo<2 ^ 64) (hh:hi<2 ^ 64) (hl':lo'<2 ^ 64) (hh':hi'<2 ^ 64) (l h l' h':Key) (hr:Hid (canonS lo hi a b=some (l,h))) (hr':Hid (canonS lo' hi' a' b'=some (l',h'))) :
  Calls Tryz.prog 159 #[.agg #[.float .f64 lo,.float .f64 hi,.bool a,.bool b],.agg #[.float .f64 lo',.float .f64 hi',.bool a',.bool b']] w (Ret (.int .i64 (orI (cmpI l.v l'.v) (cmpI h.v h'.v))) w):=by
 go_enter Tryz.func159,Tryz.ntmps159
 go_wp2_with fail
 (refine wp_region_ext_tail 4 (by kernel_rfl) (by kernel_rfl) (by kernel_rfl) ?_;simp only [List.take_succ_cons,List.take_zero,List.drop_succ_cons,List.drop_zero];(repeat (go_big_quiet_step (first|(go_at_call 181;with_reducible exact Calls.ext_of (canon_isS lo hi a b l h _ (by assumption) (by assumption) hr))|(go_at_call 181;with_reducible exact Calls.ext_of (canon_isS lo' hi' a' b' l' h' _ (by assumption) (by assumption) hr')))));refine mX ?_;intro w1 hb1 hc1 hf1 hz1;intros)
 (have cc1_0_0:=hc1 (w.heap.size) 0 lt_auto;have cf1_0_0:=hf1 (w.heap.size) 0 lt_auto;have cc1_0_1:=hc1 (w.heap.size) 1 lt_auto;have cf1_0_1:=hf1 (w.heap.size) 1 lt_auto;have cc1_0_2:=hc1 (w.heap.size) 2 lt_auto;have cf1_0_2:=hf1 (w.heap.size) 2 lt_auto;have cc1_0_3:=hc1 (w.heap.size) 3 lt_auto;have cf1_0_3:=hf1 (w.heap.size) 3 lt_auto;have cc1_1_0:=hc1 (w.heap.size+1) 0 lt_auto;have cf1_1_0:=hf1 (w.heap.size+1) 0 lt_auto;have cc1_1_1:=hc1 (w.heap.size+1) 1 lt_auto;have cf1_1_1:=hf1 (w.heap.size+1) 1 lt_auto;have cc1_1_2:=hc1 (w.heap.size+1) 2 lt_auto;have cf1_1_2:=hf1 (w.heap.size+1) 2 lt_auto;have cc1_1_3:=hc1 (w.heap.size+1) 3 lt_auto;have cf1_1_3:=hf1 (w.heap.size+1) 3 lt_auto;clear hc1 hf1;simp [go_sem] at cc1_0_0 cf1_0_0 cc1_0_1 cf1_0_1 cc1_0_2 cf1_0_2 cc1_0_3 cf1_0_3 cc1_1_0 cf1_1_0 cc1_1_1 cf1_1_1 cc1_1_2 cf1_1_2 cc1_1_3 cf1_1_3)
 go_wp2_with fail
 (generalize hW2:World.setCell _ _ _=w2;have hB2:Below w.heap.size w w2:=(by rw [←hW2];exact below_auto);have hS2:=congrArg (fun W=>W.heap.size) hW2.symm;simp [go_sem] at hS2;have cc2_0_0:=congrArg (fun W=>W.cell? ⟨w.heap.size,0,none⟩) hW2.symm;have cf2_0_0:=congrArg (fun W=>W.frozen? ⟨w.heap.size,0,none⟩) hW2.symm;have cc2_0_1:=congrArg (fun W=>W.cell? ⟨w.heap.size,1,none⟩) hW2.symm;have cf2_0_1:=congrArg (fun W=>W.frozen? ⟨w.heap.size,1,none⟩) hW2.symm;have cc2_1_0:=congrArg (fun W=>W.cell? ⟨w.heap.size+1,0,none⟩) hW2.symm;have cf2_1_0:=congrArg (fun W=>W.frozen? ⟨w.heap.size+1,0,none⟩) hW2.symm;have cc2_1_1:=congrArg (fun W=>W.cell? ⟨w.heap.size+1,1,none⟩) hW2.symm;have cf2_1_1:=congrArg (fun W=>W.frozen? ⟨w.heap.size+1,1,none⟩) hW2.symm;clear hW2;simp [go_sem, *] at cc2_0_0;simp [go_sem, *] at cf2_0_0;simp [go_sem, *] at cc2_0_1;simp [go_sem, *] at cf2_0_1;simp [go_sem, *] at cc2_1_0;simp [go_sem, *] at cf2_1_0;simp [go_sem, *] at cc2_1_1;simp [go_sem, *] at cf2_1_1;(try have hw2_0:w.heap.size<w2.heap.size:=by omega);(try have hw2_1:w.heap.size+1<w2.heap.size:=by omega);(try have hw2_2:w.heap.size+1+1<w2.heap.size:=by omega);(try have hw2_3:w.heap.size+1+1+1<w2.heap.size:=by omega);clear hS2;(try clear hb1);(try clear hz1);(try clear hB1);(try clear cc1_0_0);(try clear cf1_0_0);(try clear cc1_0_1);(try clear cf1_0_1);(try clear cc1_1_0);(try clear cf1_1_0);(try clear cc1_1_1);(try clear cf1_1_1);(try clear hy1_0);(try clear hx1_0);(try clear hw1_0);(try clear hy1_1);(try clear hx1_1);(try clear hw1_1);(try clear hy1_2);(try clear hx1_2);(try clear hw1_2);(try clear hy1_3);(try clear hx1_3);(try clear hw1_3))
 (refine wp_region_ext_tail 10 (by kernel_rfl) (by kernel_rfl) (by kernel_rfl) ?_;simp only [List.take_succ_cons,List.take_zero,List.drop_succ_cons,List.drop_zero];(repeat (go_big_quiet_step (first|(go_at_call 214;with_reducible exact Calls.ext_same (floCmp_keys _ _ _)))));refine mX ?_;intro w3 hb3 hc3 hf3 hz3;intros)
 go_wp2_with (go_at_call 213;(with_reducible refine (or_two (cmpI l.v l'.v) (cmpI h.v h'.v) _ _ (by simp [go_sem]) (by simp [go_sem])).mono ?_);rintro e w' ⟨rfl,rfl⟩)
 go_ret
 exact ⟨ret_int rfl,by exact below_auto⟩

theorem cmp_any (lo hi lo' hi':Nat) (a b a' b':Bool) (w:World) (hl:lo<2 ^ 64) (hh:hi<2 ^ 64) (hl':lo'<2 ^ 64) (hh':hi'<2 ^ 64) :
  Calls Tryz.prog 159 #[.agg #[.float .f64 lo,.float .f64 hi,.bool a,.bool b],.agg #[.float .f64 lo',.float .f64 hi',.bool a',.bool b']] w (Ret (.int .i64 (cmpR (canonS lo hi a b) (canonS lo' hi' a' b'))) w):=by
 obtain ⟨r,hr⟩:∃ r,canonS lo hi a b=r:=⟨_,rfl⟩
 obtain ⟨r',hr'⟩:∃ r',canonS lo' hi' a' b'=r':=⟨_,rfl⟩
 rw [hr,hr']
 rcases r with _|⟨l,h⟩
 ·rcases r' with _|⟨l',h'⟩
  ·exact cmp_nn lo hi lo' hi' a b a' b' w hl hh hl' hh' hr hr'
  ·exact cmp_ns lo hi lo' hi' a b a' b' w hl hh hl' hh' hr l' h' hr'
 ·rcases r' with _|⟨l',h'⟩
  ·exact cmp_sn lo hi lo' hi' a b a' b' w hl hh hl' hh' l h hr hr'
  ·exact cmp_ss lo hi lo' hi' a b a' b' w hl hh hl' hh' l h l' h' hr hr'

end Go.Proofs.YtdeeoddacnealaaGreat.D