/- Several texts as one: A2 A3 Tail E. -/
import Derived.Test.YtdeeoddacnealaaGreatMFL
import Derived.Deep.QuietTactic
import Derived.BigQuiet
import Derived.StillTail
import Derived.Deep.Quiet
import Derived.Below
set_option linter.unusedVariables false
namespace Go.Proofs.YtdeeoddacnealaaGreat
open Go.RowKit Fl

theorem none_any (w:World):Calls Tryz.prog 219 #[] w (Ret (spv none) w):=by
 go_enter Tryz.func219,Tryz.ntmps219
 go_wp2
 exact bodyPost_ret (v:=spv none) (by simp [results,Tryz.results219,go_sem,spv]) rfl ⟨rfl,by exact below_auto⟩

theorem canon_gt (lo hi:Nat) (a b:Bool) (w:World) (hr:(!isNaN lo && !isNaN hi)=true) (h1:flt hi lo=true) :
  Calls Tryz.prog 181 #[.agg #[.float .f64 lo,.float .f64 hi,.bool a,.bool b]] w (Ret (spv none) w):=by
 go_enter Tryz.func181,Tryz.ntmps181
 go_wp2_with (first|(go_at_call 218;with_reducible refine mQ (right_any _ _ _ _ _) ?_;intro w1 hb1 hc1 hf1 hz1;intros)|(go_at_call 219;with_reducible refine mQ (none_any _) ?_;intro w2 hb2 hc2 hf2 hz2;intros))
 exact bodyPost_ret (v:=spv none) (by simp [results,Tryz.results181,go_sem, *]) rfl ⟨rfl,by exact below_auto⟩

theorem canon_wrong (lo hi:Nat) (a b:Bool) (w:World) (hr:(!isNaN lo && !isNaN hi)=false) :
  Calls Tryz.prog 181 #[.agg #[.float .f64 lo,.float .f64 hi,.bool a,.bool b]] w (Ret (spv none) w):=by
 go_enter Tryz.func181,Tryz.ntmps181
 go_wp2_with (first|(go_at_call 218;with_reducible refine mQ (right_any _ _ _ _ _) ?_;intro w1 hb1 hc1 hf1 hz1;intros)|(go_at_call 219;with_reducible refine mQ (none_any _) ?_;intro w2 hb2 hc2 hf2 hz2;intros))
 exact bodyPost_ret (v:=spv none) (by simp [results,Tryz.results181,go_sem, *]) rfl ⟨rfl,by exact below_auto⟩

theorem canon_eqa (lo hi:Nat) (b:Bool) (w:World) (hr:(!isNaN lo && !isNaN hi)=true) (h1:flt hi lo=false) (h2:feq lo hi=true) :
  Calls Tryz.prog 181 #[.agg #[.float .f64 lo,.float .f64 hi,.bool true,.bool b]] w (Ret (spv none) w):=by
 go_enter Tryz.func181,Tryz.ntmps181
 go_wp2_with (first|(go_at_call 218;with_reducible refine mQ (right_any _ _ _ _ _) ?_;intro w1 hb1 hc1 hf1 hz1;intros)|(go_at_call 219;with_reducible refine mQ (none_any _) ?_;intro w2 hb2 hc2 hf2 hz2;intros))
 exact bodyPost_ret (v:=spv none) (by simp [results,Tryz.results181,go_sem, *]) rfl ⟨rfl,by exact below_auto⟩

theorem canon_eqb (lo hi:Nat) (w:World) (hr:(!isNaN lo && !isNaN hi)=true) (h1:flt hi lo=false) (h2:feq lo hi=true) :
  Calls Tryz.prog 181 #[.agg #[.float .f64 lo,.float .f64 hi,.bool false,.bool true]] w (Ret (spv none) w):=by
 go_enter Tryz.func181,Tryz.ntmps181
 go_wp2_with (first|(go_at_call 218;with_reducible refine mQ (right_any _ _ _ _ _) ?_;intro w1 hb1 hc1 hf1 hz1;intros)|(go_at_call 219;with_reducible refine mQ (none_any _) ?_;intro w2 hb2 hc2 hf2 hz2;intros))
 exact bodyPost_ret (v:=spv none) (by simp [results,Tryz.results181,go_sem, *]) rfl ⟨rfl,by exact below_auto⟩

theorem canon_ff (lo hi:Nat) (kl kh:Key) (w:World) (hl:lo<2 ^ 64) (hh:hi<2 ^ 64) (hr:(!isNaN lo && !isNaN hi)=true) (h1:flt hi lo=false) (hb1:cbits lo=kl.bits) (hb2:cbits hi=kh.bits)
  (h4:decide (kh.v<kl.v)=false) :
  Calls Tryz.prog 181 #[.agg #[.float .f64 lo,.float .f64 hi,.bool false,.bool false]] w (Ret (spv (some (kl,kh))) w):=by
 cases h2:feq lo hi
 ·go_enter Tryz.func181,Tryz.ntmps181
  go_wp2_with (first|(go_at_call 218;with_reducible refine mQ (right_any _ _ _ _ _) ?_;intro w1 hb1 hc1 hf1 hz1;intros)|(go_at_call 219;with_reducible refine mQ (none_any _) ?_;intro w2 hb2 hc2 hf2 hz2;intros))
  go_quiet ((go_at_call 195;exact Calls.quiet_of_same ((floCanon_any _ (by assumption) _).mono fun _ _ ⟨hq1,hq2⟩=>⟨hq1,hq2.symm⟩)))
  (refine mZ hb1 ?_;intro hz1;intros)
  go_wp2_with (first|(go_at_call 220;(with_reducible refine (next_any _ _).mono ?_);rintro e w' ⟨rfl,rfl⟩)|(go_at_call 221;(with_reducible refine (prev_any _ _).mono ?_);rintro e w' ⟨rfl,rfl⟩)|(go_at_call 219;with_reducible refine mQ (none_any _) ?_;intro w2 hb2 hc2 hf2 hz2;intros))
  exact bodyPost_ret (v:=spv (some (kl,kh))) (by simp [results,Tryz.results181,go_sem, *]) rfl ⟨rfl,by exact below_auto⟩
 ·go_enter Tryz.func181,Tryz.ntmps181
  go_wp2_with (first|(go_at_call 218;with_reducible refine mQ (right_any _ _ _ _ _) ?_;intro w1 hb1 hc1 hf1 hz1;intros)|(go_at_call 219;with_reducible refine mQ (none_any _) ?_;intro w2 hb2 hc2 hf2 hz2;intros))
  go_quiet ((go_at_call 195;exact Calls.quiet_of_same ((floCanon_any _ (by assumption) _).mono fun _ _ ⟨hq1,hq2⟩=>⟨hq1,hq2.symm⟩)))
  (refine mZ hb1 ?_;intro hz1;intros)
  go_wp2_with (first|(go_at_call 220;(with_reducible refine (next_any _ _).mono ?_);rintro e w' ⟨rfl,rfl⟩)|(go_at_call 221;(with_reducible refine (prev_any _ _).mono ?_);rintro e w' ⟨rfl,rfl⟩)|(go_at_call 219;with_reducible refine mQ (none_any _) ?_;intro w2 hb2 hc2 hf2 hz2;intros))
  exact bodyPost_ret (v:=spv (some (kl,kh))) (by simp [results,Tryz.results181,go_sem, *]) rfl ⟨rfl,by exact below_auto⟩

theorem canon_tf (lo hi:Nat) (kl kh:Key) (w:World) (hl:lo<2 ^ 64) (hh:hi<2 ^ 64) (hr:(!isNaN lo && !isNaN hi)=true) (h1:flt hi lo=false) (h2:feq lo hi=false) (hb1:cbits lo=kl.bits) (hb2:cbits hi=kh.bits)
  (h4:decide (kh.v<(knext kl).v)=false) :
  Calls Tryz.prog 181 #[.agg #[.float .f64 lo,.float .f64 hi,.bool true,.bool false]] w (Ret (spv (some (knext kl,kh))) w):=by
 go_enter Tryz.func181,Tryz.ntmps181
 go_wp2_with (first|(go_at_call 218;with_reducible refine mQ (right_any _ _ _ _ _) ?_;intro w1 hb1 hc1 hf1 hz1;intros)|(go_at_call 219;with_reducible refine mQ (none_any _) ?_;intro w2 hb2 hc2 hf2 hz2;intros))
 go_quiet ((go_at_call 195;exact Calls.quiet_of_same ((floCanon_any _ (by assumption) _).mono fun _ _ ⟨hq1,hq2⟩=>⟨hq1,hq2.symm⟩)))
 (refine mZ hb1 ?_;intro hz1;intros)
 go_wp2_with (first|(go_at_call 220;(with_reducible refine (next_any _ _).mono ?_);rintro e w' ⟨rfl,rfl⟩)|(go_at_call 221;(with_reducible refine (prev_any _ _).mono ?_);rintro e w' ⟨rfl,rfl⟩)|(go_at_call 219;with_reducible refine mQ (none_any _) ?_;intro w2 hb2 hc2 hf2 hz2;intros))
 exact bodyPost_ret (v:=spv (some (knext kl,kh))) (by simp [results,Tryz.results181,go_sem, *]) rfl ⟨rfl,by exact below_auto⟩

theorem canon_ft (lo hi:Nat) (kl kh:Key) (w:World) (hl:lo<2 ^ 64) (hh:hi<2 ^ 64) (hr:(!isNaN lo && !isNaN hi)=true) (h1:flt hi lo=false) (h2:feq lo hi=false) (hb1:cbits lo=kl.bits) (hb2:cbits hi=kh.bits)
  (h3:pbits kh=(kprev kh).bits) (h4:decide ((kprev kh).v<kl.v)=false) :
  Calls Tryz.prog 181 #[.agg #[.float .f64 lo,.float .f64 hi,.bool false,.bool true]] w (Ret (spv (some (kl,kprev kh))) w):=by
 go_enter Tryz.func181,Tryz.ntmps181
 go_wp2_with (first|(go_at_call 218;with_reducible refine mQ (right_any _ _ _ _ _) ?_;intro w1 hb1 hc1 hf1 hz1;intros)|(go_at_call 219;with_reducible refine mQ (none_any _) ?_;intro w2 hb2 hc2 hf2 hz2;intros))
 go_quiet ((go_at_call 195;exact Calls.quiet_of_same ((floCanon_any _ (by assumption) _).mono fun _ _ ⟨hq1,hq2⟩=>⟨hq1,hq2.symm⟩)))
 (refine mZ hb1 ?_;intro hz1;intros)
 go_wp2_with (first|(go_at_call 220;(with_reducible refine (next_any _ _).mono ?_);rintro e w' ⟨rfl,rfl⟩)|(go_at_call 221;(with_reducible refine (prev_any _ _).mono ?_);rintro e w' ⟨rfl,rfl⟩)|(go_at_call 219;with_reducible refine mQ (none_any _) ?_;intro w2 hb2 hc2 hf2 hz2;intros))
 exact bodyPost_ret (v:=spv (some (kl,kprev kh))) (by simp [results,Tryz.results181,go_sem, *]) rfl ⟨rfl,by exact below_auto⟩

theorem canon_tt (lo hi:Nat) (kl kh:Key) (w:World) (hl:lo<2 ^ 64) (hh:hi<2 ^ 64) (hr:(!isNaN lo && !isNaN hi)=true) (h1:flt hi lo=false) (h2:feq lo hi=false) (hb1:cbits lo=kl.bits) (hb2:cbits hi=kh.bits)
  (h3:pbits kh=(kprev kh).bits) (h4:decide ((kprev kh).v<(knext kl).v)=false) :
  Calls Tryz.prog 181 #[.agg #[.float .f64 lo,.float .f64 hi,.bool true,.bool true]] w (Ret (spv (some (knext kl,kprev kh))) w):=by
 go_enter Tryz.func181,Tryz.ntmps181
 go_wp2_with (first|(go_at_call 218;with_reducible refine mQ (right_any _ _ _ _ _) ?_;intro w1 hb1 hc1 hf1 hz1;intros)|(go_at_call 219;with_reducible refine mQ (none_any _) ?_;intro w2 hb2 hc2 hf2 hz2;intros))
 go_quiet ((go_at_call 195;exact Calls.quiet_of_same ((floCanon_any _ (by assumption) _).mono fun _ _ ⟨hq1,hq2⟩=>⟨hq1,hq2.symm⟩)))
 (refine mZ hb1 ?_;intro hz1;intros)
 go_wp2_with (first|(go_at_call 220;(with_reducible refine (next_any _ _).mono ?_);rintro e w' ⟨rfl,rfl⟩)|(go_at_call 221;(with_reducible refine (prev_any _ _).mono ?_);rintro e w' ⟨rfl,rfl⟩)|(go_at_call 219;with_reducible refine mQ (none_any _) ?_;intro w2 hb2 hc2 hf2 hz2;intros))
 exact bodyPost_ret (v:=spv (some (knext kl,kprev kh))) (by simp [results,Tryz.results181,go_sem, *]) rfl ⟨rfl,by exact below_auto⟩

theorem canon_tn (lo hi:Nat) (kl kh:Key) (w:World) (hl:lo<2 ^ 64) (hh:hi<2 ^ 64) (hr:(!isNaN lo && !isNaN hi)=true) (h1:flt hi lo=false) (h2:feq lo hi=false) (hb1:cbits lo=kl.bits) (hb2:cbits hi=kh.bits)
  (h3:pbits kh=(kprev kh).bits) (h4:decide ((kprev kh).v<(knext kl).v)=true) :
  Calls Tryz.prog 181 #[.agg #[.float .f64 lo,.float .f64 hi,.bool true,.bool true]] w (Ret (spv none) w):=by
 go_enter Tryz.func181,Tryz.ntmps181
 go_wp2_with (first|(go_at_call 218;with_reducible refine mQ (right_any _ _ _ _ _) ?_;intro w1 hb1 hc1 hf1 hz1;intros)|(go_at_call 219;with_reducible refine mQ (none_any _) ?_;intro w2 hb2 hc2 hf2 hz2;intros))
 go_quiet ((go_at_call 195;exact Calls.quiet_of_same ((floCanon_any _ (by assumption) _).mono fun _ _ ⟨hq1,hq2⟩=>⟨hq1,hq2.symm⟩)))
 (refine mZ hb1 ?_;intro hz1;intros)
 go_wp2_with (first|(go_at_call 220;(with_reducible refine (next_any _ _).mono ?_);rintro e w' ⟨rfl,rfl⟩)|(go_at_call 221;(with_reducible refine (prev_any _ _).mono ?_);rintro e w' ⟨rfl,rfl⟩)|(go_at_call 219;with_reducible refine mQ (none_any _) ?_;intro w2 hb2 hc2 hf2 hz2;intros))
 exact bodyPost_ret (v:=spv none) (by simp [results,Tryz.results181,go_sem, *]) rfl ⟨rfl,by exact below_auto⟩

theorem canon_any (lo hi:Nat) (a b:Bool) (w:World) (hl:lo<2 ^ 64) (hh:hi<2 ^ 64) :
  Calls Tryz.prog 181 #[.agg #[.float .f64 lo,.float .f64 hi,.bool a,.bool b]] w (Ret (spv (canonS lo hi a b)) w):=by
 cases hnl:isNaN lo
 ·cases hnh:isNaN hi
  ·have hr:(!isNaN lo && !isNaN hi)=true:=by simp [hnl,hnh]
   by_cases hgt:(kof hi).v<(kof lo).v
   ·have e:canonS lo hi a b=none:=by
     unfold canonS;rw [if_neg (by simp [hnl,hnh]),dif_neg]
     cases a <;> cases b <;> simp <;> omega
    rw [e]
    exact canon_gt lo hi a b w hr (by simp [flt,hnl,hnh,hgt])
   ·have h1:flt hi lo=false:=by simp [flt,hnl,hnh,hgt]
    have hb1:cbits lo=(kof lo).bits:=cbits_num hnl
    have hb2:cbits hi=(kof hi).bits:=cbits_num hnh
    by_cases heq:(kof lo).v=(kof hi).v
    ·have h2:feq lo hi=true:=by simp [feq,hnl,hnh,heq]
     cases a
     ·cases b
      ·have e:canonS lo hi false false=some (kof lo,kof hi):=by
        unfold canonS;rw [if_neg (by simp [hnl,hnh]),dif_pos (by simp;omega)];simp
       rw [e]
       exact canon_ff lo hi _ _ w hl hh hr h1 hb1 hb2 (by simp;omega)
      ·have e:canonS lo hi false true=none:=by
        unfold canonS;rw [if_neg (by simp [hnl,hnh]),dif_neg];simp;omega
       rw [e]
       exact canon_eqb lo hi w hr h1 h2
     ·have e:canonS lo hi true b=none:=by
       unfold canonS;rw [if_neg (by simp [hnl,hnh]),dif_neg];cases b <;> simp <;> omega
      rw [e]
      exact canon_eqa lo hi b w hr h1 h2
    ·have h2:feq lo hi=false:=by simp [feq,hnl,hnh,heq]
     have n1:(kof lo).v≠(inf:Int):=by have:=(kof hi).hi;omega
     have n2:(kof hi).v≠-(inf:Int):=by have:=(kof lo).lo;omega
     have h3:pbits (kof hi)=(kprev (kof hi)).bits:=by simp [pbits,n2]
     have n3:=knext_v n1
     have n4:=kprev_v n2
     cases a
     ·cases b
      ·have e:canonS lo hi false false=some (kof lo,kof hi):=by
        unfold canonS;rw [if_neg (by simp [hnl,hnh]),dif_pos (by simp;omega)];simp
       rw [e]
       exact canon_ff lo hi _ _ w hl hh hr h1 hb1 hb2 (by simp;omega)
      ·have e:canonS lo hi false true=some (kof lo,kprev (kof hi)):=by
        unfold canonS;rw [if_neg (by simp [hnl,hnh]),dif_pos (by simp;omega)]
        simp [Key.eq_iff,n4]
       rw [e]
       exact canon_ft lo hi _ _ w hl hh hr h1 h2 hb1 hb2 h3 (by simp;omega)
     ·cases b
      ·have e:canonS lo hi true false=some (knext (kof lo),kof hi):=by
        unfold canonS;rw [if_neg (by simp [hnl,hnh]),dif_pos (by simp;omega)]
        simp [Key.eq_iff,n3]
       rw [e]
       exact canon_tf lo hi _ _ w hl hh hr h1 h2 hb1 hb2 (by simp;omega)
      ·by_cases h5:(kprev (kof hi)).v<(knext (kof lo)).v
       ·have e:canonS lo hi true true=none:=by
         unfold canonS;rw [if_neg (by simp [hnl,hnh]),dif_neg];simp;omega
        rw [e]
        exact canon_tn lo hi _ _ w hl hh hr h1 h2 hb1 hb2 h3 (by simp;omega)
       ·have e:canonS lo hi true true=some (knext (kof lo),kprev (kof hi)):=by
         unfold canonS;rw [if_neg (by simp [hnl,hnh]),dif_pos (by simp;omega)]
         simp [Key.eq_iff,n3,n4]
        rw [e]
        exact canon_tt lo hi _ _ w hl hh hr h1 h2 hb1 hb2 h3 (by simp;omega)
  ·have e:canonS lo hi a b=none:=by simp [canonS,hnh]
   rw [e]
   exact canon_wrong lo hi a b w (by simp [hnh])
 ·have e:canonS lo hi a b=none:=by simp [canonS,hnl]
  rw [e]
  exact canon_wrong lo hi a b w (by simp [hnl])

theorem canon_is (lo hi:Nat) (a b:Bool) (r:Rg) (w:World) (hl:lo<2 ^ 64) (hh:hi<2 ^ 64) (hr:Hid (canonS lo hi a b=r)) :
  Calls Tryz.prog 181 #[.agg #[.float .f64 lo,.float .f64 hi,.bool a,.bool b]] w (Ret (spv r) w):=by
 have h:=canon_any lo hi a b w hl hh
 rw [hr.out] at h
 exact h

theorem empty_any (lo hi:Nat) (a b:Bool) (w:World) (hl:lo<2 ^ 64) (hh:hi<2 ^ 64) :
  Calls Tryz.prog 108 #[.agg #[.float .f64 lo,.float .f64 hi,.bool a,.bool b]] w (Ret (.bool (canonS lo hi a b).isNone) w):=by
 obtain ⟨r,hr⟩:∃ r,canonS lo hi a b=r:=⟨_,rfl⟩
 rw [hr]
 have Hr:Hid (canonS lo hi a b=r):=hr
 clear hr
 rcases r with _|⟨l,h⟩
 ·go_enter Tryz.func108,Tryz.ntmps108
  go_wp2_with (go_at_call 181;with_reducible refine mQ (canon_is _ _ _ _ none _ hl hh Hr) ?_;intro w1 hb1 hc1 hf1 hz1;intros)
  go_ret
  exact ⟨ret_bool rfl,by exact below_auto⟩
 ·go_enter Tryz.func108,Tryz.ntmps108
  go_wp2_with (go_at_call 181;with_reducible refine mQ (canon_is _ _ _ _ (some (l,h)) _ hl hh Hr) ?_;intro w1 hb1 hc1 hf1 hz1;intros)
  go_ret
  exact ⟨ret_bool rfl,by exact below_auto⟩

theorem has_any (lo hi:Nat) (a b:Bool) (key:Nat) (w:World) (hl:lo<2 ^ 64) (hh:hi<2 ^ 64) :
  Calls Tryz.prog 230 #[.agg #[.float .f64 lo,.float .f64 hi,.bool a,.bool b],.float .f64 key] w (Ret (.bool (hasB (canonS lo hi a b) key)) w):=by
 obtain ⟨r,hr⟩:∃ r,canonS lo hi a b=r:=⟨_,rfl⟩
 rw [hr]
 have Hr:Hid (canonS lo hi a b=r):=hr
 clear hr
 rcases r with _|⟨l,h⟩
 ·go_enter Tryz.func230,Tryz.ntmps230
  go_wp2_with (go_at_call 181;with_reducible refine mQ (canon_is _ _ _ _ none _ hl hh Hr) ?_;intro w1 hb1 hc1 hf1 hz1;intros)
  go_ret
  exact ⟨ret_bool rfl,by exact below_auto⟩
 ·cases h1:fle l.bits key
  ·go_enter Tryz.func230,Tryz.ntmps230
   go_wp2_with (go_at_call 181;with_reducible refine mQ (canon_is _ _ _ _ (some (l,h)) _ hl hh Hr) ?_;intro w1 hb1 hc1 hf1 hz1;intros)
   go_ret
   exact ⟨ret_bool (by simp [hasB,h1]),by exact below_auto⟩
  ·go_enter Tryz.func230,Tryz.ntmps230
   go_wp2_with (go_at_call 181;with_reducible refine mQ (canon_is _ _ _ _ (some (l,h)) _ hl hh Hr) ?_;intro w1 hb1 hc1 hf1 hz1;intros)
   go_ret
   exact ⟨ret_bool (by simp [hasB,h1]),by exact below_auto⟩

open Go.RowKit

def headFwd (md:Region.Mode) (l:List Oper):Bool :=
 (List.range l.length).all fun i=>match l[i]? with
  | some o=>(o.after.all fun e=>!Region.binds md e||decide (e.on<i)) && (match o.guard with|none=>true|some (j,_)=>decide (j<l.length))
  | none=>true

section
variable {P : Program} {md : Region.Mode} {C : World → Prop} {l : List Oper} {n : Nat}

theorem headFwd_spec {i:Nat} {o:Oper} (h:headFwd md l=true) (ho:l[i]? = some o):(∀ e∈o.after,Region.binds md e=true→e.on<i)∧(∀ j b,o.guard=some (j,b)→j<l.length):=by
 have hi:i<l.length:=(List.getElem?_eq_some_iff.1 ho).1
 have h1:=List.all_eq_true.1 h i (List.mem_range.2 hi)
 simp only [ho,Bool.and_eq_true] at h1
 constructor
 ·intro e he hb
  have:=(Array.all_eq_true'.1 h1.1) e he
  simp only [hb,Bool.not_true,Bool.false_or,decide_eq_true_eq] at this
  exact this
 ·intro j b hg
  have:=h1.2
  simp only [hg,decide_eq_true_eq] at this
  exact this

theorem count_set:∀ (xs:List Bool) (i:Nat),xs[i]? = some false→((xs.set i true).filter (!·)).length+1=(xs.filter (!·)).length
 | [],i,h=>by simp at h
 | x :: xs,0,h=>by simp at h;subst h;simp
 | x :: xs,i+1,h=>by
  have:=count_set xs i (by simpa using h)
  cases x <;> simp at * <;> omega

theorem count_pos {xs:List Bool} {k:Nat} (h:(xs.filter (!·)).length=k+1):∃ i:Nat,xs[i]? = some false:=by
 have:(xs.filter (!·))≠[]:=by intro e;rw [e] at h;simp at h
 obtain ⟨x,hx⟩:=List.exists_mem_of_ne_nil _ this
 rw [List.mem_filter] at hx
 obtain ⟨i,hi⟩:=List.mem_iff_getElem?.1 hx.1
 refine ⟨i,?_⟩
 rw [hi];simpa using hx.2

theorem count_zero {xs:List Bool} (h:(xs.filter (!·)).length=0) (i:Nat) (hi:i<xs.length):xs[i]? = some true:=by
 have e:xs.filter (!·)=[]:=List.length_eq_zero_iff.1 h
 rw [List.filter_eq_nil_iff] at e
 have:=e xs[i] (List.getElem_mem hi)
 rw [List.getElem?_eq_getElem hi]
 simpa using this

theorem exists_ready (hf:headFwd md l=true) {LH:Array Bool} (hz:LH.size=l.length):∀ i:Nat,LH[i]? = some false→∃ j,j∈Region.ready md l.toArray LH:=by
 intro i
 induction i using Nat.strongRecOn with
 | _ i ih =>
  intro h
  have hi:i<l.length:=by have:=(Array.getElem?_eq_some_iff.1 h).1;omega
  by_cases hall:∀ e∈(l[i]).after,Region.binds md e=true→LH.getD e.on false=true
  ·refine ⟨i,mem_ready.2 ⟨by simp [Array.getD_eq_getD_getElem?,h],l[i],by simp [hi],hall⟩⟩
  ·simp only [Classical.not_forall] at hall
   obtain ⟨e,he,hb,hno⟩:=hall
   have hlt:=(headFwd_spec hf (List.getElem?_eq_getElem hi)).1 e he hb
   refine ih e.on hlt ?_
   have hz2:e.on<LH.size:=by omega
   rw [Array.getElem?_eq_getElem hz2]
   simp [Array.getD_eq_getD_getElem?,Array.getElem?_eq_getElem hz2] at hno
   rw [hno]

theorem wanted_take {o:Oper} {a:Act} {i:Nat} (hf:headFwd md (l.take n)=true) (ho:(l.take n)[i]? = some o) :
  Region.wanted o (yielded l.toArray a.tmps)=Region.wanted o (yielded (l.take n).toArray a.tmps):=by
 have h:=(headFwd_spec hf ho).2
 unfold Region.wanted
 cases hg:o.guard with
 | none=>rfl
 | some p =>
  obtain ⟨j,b⟩:=p
  have hj:=h j b hg
  have e:l.toArray[j]? = (l.take n).toArray[j]?:=by
   simp only [List.getElem?_toArray]
   rw [List.getElem?_take,if_pos (by simp at hj;omega)]
  simp only [yielded,e]

theorem bridge {Q:Exit→Act→World→Prop} {Qh:Act→Prop} {g:Nat} (hn:n<l.length) (hs:Region.sinkB md l.toArray n=true) (hc:Region.chainB md l.toArray n=true) (hf:headFwd md (l.take n)=true)
  (hT:∀ (L:Array Bool) a w,C w→Qh a→L.size=l.length→(∀ i,i<n→L[i]? = some true)→(∀ i,n≤i→i<l.length→L[i]? = some false)→wpAny P md l.toArray Q g L a w) :
  ∀ (fuel:Nat) (L LH:Array Bool) (a:Act) (w:World),C w→HeadInv md l.toArray n L→LH.size=n→(∀ i,i<n→L[i]? = LH[i]?)→(LH.toList.filter (!·)).length=fuel →
   wpAnyQ P md (l.take n).toArray C Qh fuel LH a→wpAny P md l.toArray Q (fuel+g) L a w:=by
 have hlen:(l.take n).length=n:=by simp;omega
 have tailOf:∀ {L:Array Bool},HeadInv md l.toArray n L→∀ i,n≤i→i<l.length→L[i]? = some false:=by
  intro L inv i h1 h2
  have:=inv.tail i h1 (by simpa using h2)
  have hz:i<L.size:=by have:=inv.size;simp at this;omega
  rw [Array.getElem?_eq_getElem hz]
  simp [Array.getD_eq_getD_getElem?,Array.getElem?_eq_getElem hz] at this
  rw [this]
 intro fuel
 induction fuel with
 | zero =>
  intro L LH a w hC inv hz same hcnt H
  rw [Nat.zero_add]
  refine hT L a w hC H.2 (by have:=inv.size;simpa using this) (fun i hi=>?_) (tailOf inv)
  rw [same i hi,←Array.getElem?_toList]
  exact count_zero hcnt i (by simpa [hz] using hi)
 | succ fuel ih =>
  intro L LH a w hC inv hz same hcnt H
  obtain ⟨u,hu⟩:=count_pos hcnt
  have hu':LH[u]? = some false:=by rw [←Array.getElem?_toList];exact hu
  have hun:u<n:=by have:=(Array.getElem?_eq_some_iff.1 hu').1;omega
  have hLu:L.getD u true=false:=by simp [Array.getD_eq_getD_getElem?,same u hun,hu']
  -- what may come up of the whole is what may come up of the head
  have on_lt:∀ k,L.getD k false=true→k<n:=by
   intro k hk
   rcases Nat.lt_or_ge k n with h|h
   ·exact h
   ·rcases Nat.lt_or_ge k l.length with h2|h2
    ·have:=tailOf inv k h h2
     simp [Array.getD_eq_getD_getElem?,this] at hk
    ·have:L[k]? = none:=Array.getElem?_eq_none (by have:=inv.size;simp at this;omega)
     simp [Array.getD_eq_getD_getElem?,this] at hk
  have toHead:∀ j,j∈Region.ready md l.toArray L→j<n∧j∈Region.ready md (l.take n).toArray LH:=by
   intro j hj
   have hjn:j<n:=by
    rcases Nat.lt_or_ge j n with h|h
    ·exact h
    ·exact absurd hj (tail_waits hs hc (by simpa using hn) inv _ u rfl hun hLu j h)
   obtain ⟨h1,o,ho,hall⟩:=mem_ready.1 hj
   refine ⟨hjn,mem_ready.2 ⟨?_,o,?_,fun e he hb=>?_⟩⟩
   ·simpa [Array.getD_eq_getD_getElem?,same j hjn] using h1
   ·simp only [List.getElem?_toArray] at ho ⊢
    rw [List.getElem?_take,if_pos hjn];exact ho
   ·have h3:=hall e he hb
    have h4:=on_lt e.on h3
    simpa [Array.getD_eq_getD_getElem?,same e.on h4] using h3
  have fromHead:∀ j,j∈Region.ready md (l.take n).toArray LH→j∈Region.ready md l.toArray L:=by
   intro j hj
   obtain ⟨h1,o,ho,hall⟩:=mem_ready.1 hj
   have hjn:j<n:=by
    have:=(Array.getElem?_eq_some_iff.1 ho).1
    simp at this;omega
   refine mem_ready.2 ⟨?_,o,?_,fun e he hb=>?_⟩
   ·simpa [Array.getD_eq_getD_getElem?,same j hjn] using h1
   ·simp only [List.getElem?_toArray] at ho ⊢
    rw [List.getElem?_take,if_pos hjn] at ho;exact ho
   ·have h3:=hall e he hb
    have h4:e.on<n:=by
     rcases Nat.lt_or_ge e.on n with h|h
     ·exact h
     ·have:LH[e.on]? = none:=Array.getElem?_eq_none (by omega)
      simp [Array.getD_eq_getD_getElem?,this] at h3
    simpa [Array.getD_eq_getD_getElem?,same e.on h4] using h3
  rw [show fuel+1+g=(fuel+g)+1 by omega]
  refine ⟨fun h0=>?_,fun i hi=>?_⟩
  ·obtain ⟨j,hj⟩:=exists_ready (l:=l.take n) hf (by rw [hz,hlen]) u hu'
   have:=fromHead j hj
   rw [h0] at this
   cases this
  ·obtain ⟨hin,hiH⟩:=toHead i hi
   have hq:=H.2 i hiH
   obtain ⟨h1,o,ho,hall⟩:=mem_ready.1 hi
   have hoH:(l.take n)[i]? = some o:=by rw [List.getElem?_take,if_pos hin];simpa using ho
   have hLi:LH[i]? = some false:=by
    have:=(mem_ready.1 hiH).1
    have hz2:i<LH.size:=by omega
    rw [Array.getElem?_eq_getElem hz2]
    simp [Array.getD_eq_getD_getElem?,Array.getElem?_eq_getElem hz2] at this
    rw [this]
   have next:∀ a' w',C w'→wpAnyQ P md (l.take n).toArray C Qh fuel (LH.setIfInBounds i true) a'→wpAny P md l.toArray Q (fuel+g) (L.setIfInBounds i true) a' w':=by
    intro a' w' hC' H'
    refine ih _ _ a' w' hC' (inv.set hi hin) (by simp [hz]) (fun k hk=>?_) ?_ H'
    ·by_cases hki:i=k
     ·subst hki
      rw [Array.getElem?_setIfInBounds_self_of_lt (by have:=inv.size;simp at this;omega),Array.getElem?_setIfInBounds_self_of_lt (by omega)]
     ·rw [Array.getElem?_setIfInBounds_ne hki,Array.getElem?_setIfInBounds_ne hki];exact same k hk
    ·have:=count_set LH.toList i (by rw [Array.getElem?_toList];exact hLi)
     rw [Array.toList_setIfInBounds];omega
   unfold qOp at hq
   rw [show (l.take n).toArray[i]? = some o by simpa using hoH] at hq
   unfold wpOp
   rw [show l.toArray[i]? = some o by simpa using ho]
   dsimp only at hq ⊢
   rw [wanted_take hf hoH]
   by_cases hw:Region.wanted o (yielded (l.take n).toArray a.tmps)=true
   ·rw [if_pos hw] at hq ⊢
    exact .inl (Oper.wp_of_quiet hC next hq)
   ·rw [if_neg hw] at hq ⊢
    exact next _ _ hC hq

theorem wp_region_tail {id:Nat} {Q:Exit→Act→World→Prop} {a:Act} {w:World} (n:Nat) (hm:P.follows .mixedOrders=true) (hB:Region.lexTailB .any l.toArray n=true)
  (hH:(Region.lexB .any (l.take n).toArray && headFwd .any (l.take n) && Region.seqB .any l.toArray (l.length-n) n ((List.replicate n true++List.replicate (l.length-n) false).toArray))=true)
  (hC:C { w with drawn:=w.drawn+1 })
  (h:wpQuiet P (l.take n).toArray C (fun a'=>∀ w',C w'→wpList P l.toArray Q (l.drop n) a' w') (l.take n) a):(Code.region id l.toArray true).wp P Q a w:=by
 simp only [Region.lexTailB,Bool.and_eq_true,decide_eq_true_eq] at hB hH
 obtain ⟨⟨⟨⟨hsel,hn⟩,hs⟩,hc⟩,_⟩:=hB
 obtain ⟨⟨hlex,hf⟩,hseq⟩:=hH
 have hn':n<l.length:=by simpa using hn
 have hlen:(l.take n).length=n:=by simp;omega
 simp only [Region.lexB,Bool.and_eq_true] at hlex
 have hq:=wpAnyQ_lex (C:=C) (md:=.any) hlex.1 (l.take n) 0 (Array.replicate n false) a (by simp) (by have:=hlex.2;simp only [List.size_toArray,hlen] at this;rw [hlen];exact this) h
 rw [hlen] at hq
 refine wp_region_any hm ?_
 have inv0:HeadInv .any l.toArray n (Array.replicate l.toArray.size false) :=
  ⟨by simp,fun j oj _ hl=>(by rw [getD_replicate_false] at hl;cases hl),fun t _ ht=>getD_in (by simpa using ht) (getD_replicate_false _ _)⟩
 have:=bridge (P:=P) (md:=.any) (C:=C) (l:=l) (n:=n) (Q:=Q) (g:=l.length-n) hn' hs hc hf (Qh:=fun a'=>∀ w',C w'→wpList P l.toArray Q (l.drop n) a' w') (fun L a w hw hQ hz h1 h2=>by
  have eL:L=(List.replicate n true++List.replicate (l.length-n) false).toArray:=by
   apply Array.ext_getElem?
   intro i
   rcases Nat.lt_or_ge i n with hi|hi
   ·rw [h1 i hi];simp [List.getElem?_append,hi]
   ·rcases Nat.lt_or_ge i l.length with h3|h3
    ·rw [h2 i hi h3];simp [List.getElem?_append,Nat.not_lt.2 hi,List.getElem?_replicate];omega
    ·rw [Array.getElem?_eq_none (by omega)];symm;simp;omega
  rw [eL]
  have hdl:(l.drop n).length=l.length-n:=by simp
  have:=wpAny_of_seq (P:=P) (md:=.any) (ops:=l.toArray) (Q':=Q) (l.drop n) n _ a w (fun j=>by simp [List.getElem?_drop]) (by rw [hdl];exact hseq) (hQ w hw)
  rwa [hdl] at this) n _ (Array.replicate n false) a _ hC inv0 (by simp) (fun i hi=>by simp [hi,Nat.lt_trans hi hn']) (by simp) hq
 rw [show n+(l.length-n)=l.toArray.size by simp;omega] at this
 exact this
end

theorem wp_region_ext_tail {P:Program} {id:Nat} {Q:Exit→Act→World→Prop} {a:Act} {w:World} {l:List Oper} (n:Nat) (hm:P.follows .mixedOrders=true) (hB:Region.lexTailB .any l.toArray n=true)
  (hH:(Region.lexB .any (l.take n).toArray && headFwd .any (l.take n) && Region.seqB .any l.toArray (l.length-n) n ((List.replicate n true++List.replicate (l.length-n) false).toArray))=true)
  (h:wpQuiet P (l.take n).toArray (fun w'=>∃ x:Ext w,w'=x.w) (fun a'=>∀ w',(∃ x:Ext w,w'=x.w)→wpList P l.toArray Q (l.drop n) a' w') (l.take n) a):(Code.region id l.toArray true).wp P Q a w :=
 wp_region_tail (C:=fun w'=>∃ x:Ext w,w'=x.w) n hm hB hH ⟨⟨_,(Below.refl _ _).drew⟩,rfl⟩ h

theorem canon_isN (lo hi:Nat) (a b:Bool) (w:World) (hl:lo<2 ^ 64) (hh:hi<2 ^ 64) (hr:Hid (canonS lo hi a b=none)) :
  Calls Tryz.prog 181 #[.agg #[.float .f64 lo,.float .f64 hi,.bool a,.bool b]] w (Ret (.agg #[.float .f64 0,.float .f64 0,.bool true,.bool true]) w):=canon_is lo hi a b none w hl hh hr
theorem canon_isS (lo hi:Nat) (a b:Bool) (l h:Key) (w:World) (hl:lo<2 ^ 64) (hh:hi<2 ^ 64) (hr:Hid (canonS lo hi a b=some (l,h))) :
  Calls Tryz.prog 181 #[.agg #[.float .f64 lo,.float .f64 hi,.bool a,.bool b]] w (Ret (.agg #[.float .f64 l.bits,.float .f64 h.bits,.bool false,.bool false]) w):=canon_is lo hi a b (some (l,h)) w hl hh hr
theorem noneV_any (w:World):Calls Tryz.prog 219 #[] w (Ret (.agg #[.float .f64 0,.float .f64 0,.bool true,.bool true]) w):=none_any w

end Go.Proofs.YtdeeoddacnealaaGreat