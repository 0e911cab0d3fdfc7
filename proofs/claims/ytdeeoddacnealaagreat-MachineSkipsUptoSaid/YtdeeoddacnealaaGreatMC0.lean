/- Several texts as one: C0 B2. -/
import Derived.Test.YtdeeoddacnealaaGreatMFL
import Derived.Test.YtdeeoddacnealaaGreatMA
set_option linter.unusedVariables false
namespace Go.Proofs.YtdeeoddacnealaaGreat
open Go.RowKit Fl

def cmpI (x y:Int):Int:=if x<y then -1 else if y<x then 1 else 0

theorem compare_any (x y:Int) (w:World) :
  Calls Tryz.prog 242 #[.int .u64 x,.int .u64 y] w fun e w'=>e=.returned (.int .i64 (cmpI x y))∧w=w':=by
 have h1:(x != x)=false:=by simp
 have h2:(y != y)=false:=by simp
 by_cases hlt:x<y
 ·have e:cmpI x y = -1:=by simp [cmpI,hlt]
  rw [e]
  clear e
  go_enter Tryz.func242,Tryz.ntmps242
  go_wp2
  go_ret
  exact ⟨rfl,rfl⟩
 ·by_cases hgt:y<x
  ·have e:cmpI x y=1:=by simp [cmpI,hlt,hgt]
   rw [e]
   clear e
   go_enter Tryz.func242,Tryz.ntmps242
   go_wp2
   go_ret
   exact ⟨rfl,rfl⟩
  ·have e:cmpI x y=0:=by simp [cmpI,hlt,hgt]
   rw [e]
   clear e
   go_enter Tryz.func242,Tryz.ntmps242
   go_wp2
   go_ret
   exact ⟨rfl,rfl⟩

theorem nat_xor_all {b:Nat} (hb:b<2 ^ 64):(2 ^ 64-1) ^^^ b=2 ^ 64-(b+1):=by
 apply Nat.eq_of_testBit_eq
 intro i
 rw [Nat.testBit_xor,Nat.testBit_two_pow_sub_one,Nat.testBit_two_pow_sub_succ hb]
 by_cases hi:i<64
 ·simp [hi]
 ·have:b.testBit i=false:=Nat.testBit_lt_two_pow (Nat.lt_of_lt_of_le hb (Nat.pow_le_pow_right (by omega) (by omega)))
  simp [hi,this]
theorem bits_xor_all {b:Nat} (hb:b<2 ^ 64):bits BinOp.xor IntKind.u64 IntKind.u64.max (b:Int)=((2 ^ 64-(b+1):Nat):Int):=by
 have h:=u64_xor_nat 18446744073709551615 b (by omega) (by omega)
 rw [show IntKind.u64.max=((18446744073709551615:Nat):Int) from rfl,h,←nat_xor_all hb]

theorem floCode_any (b:Nat) (hb:b<2 ^ 64) (w:World) :
  Calls Tryz.prog 140 #[.float .f64 b] w fun e w'=>e=.returned (.int .u64 (codeOf b))∧w=w':=by
 have hsg:IntKind.u64.signed=false:=rfl
 cases hn:isNaN b
 ·have e:codeOf b=kcode (kof b):=by simp [codeOf,hn]
  have e2:cbits b=(kof b).bits:=cbits_num hn
  have hk1:=(kof b).lo;have hk2:=(kof b).hi;have hk3:=(kof b).bits_lt
  by_cases hp:0≤(kof b).v
  ·have hb1:(kof b).bits<top:=by unfold Key.bits inf top at *;rw [if_pos hp];omega
   have h1:(bits BinOp.and IntKind.u64 ((kof b).bits:Int) 9223372036854775808 == 0)=true:=by rw [bits_and_top hk3,if_pos hb1];rfl
   have h2:bits BinOp.or IntKind.u64 ((kof b).bits:Int) 9223372036854775808=codeOf b:=by
    rw [bits_or_top hb1,e];unfold kcode Key.bits top;rw [if_pos hp,if_pos hp];omega
   clear hk1 hk2 hk3 hb1 e hp
   go_enter Tryz.func140,Tryz.ntmps140
   go_wp2_with (first|(go_at_call 106;(with_reducible refine (isNaN_any _ _).mono ?_);rintro e w' ⟨rfl,rfl⟩)|(go_at_call 195;(with_reducible refine (floCanon_any _ hb _).mono ?_);rintro e w' ⟨rfl,rfl⟩))
   go_ret
   exact ⟨rfl,rfl⟩
  ·have hb1:¬(kof b).bits<top:=by unfold Key.bits;rw [if_neg hp];omega
   have h1:(bits BinOp.and IntKind.u64 ((kof b).bits:Int) 9223372036854775808 == 0)=false:=by rw [bits_and_top hk3,if_neg hb1];rfl
   have h2:bits BinOp.xor IntKind.u64 IntKind.u64.max ((kof b).bits:Int)=codeOf b:=by
    rw [bits_xor_all hk3,e];unfold kcode Key.bits inf top at *;rw [if_neg hp,if_neg hp];omega
   clear hk1 hk2 hk3 hb1 e hp
   go_enter Tryz.func140,Tryz.ntmps140
   go_wp2_with (first|(go_at_call 106;(with_reducible refine (isNaN_any _ _).mono ?_);rintro e w' ⟨rfl,rfl⟩)|(go_at_call 195;(with_reducible refine (floCanon_any _ hb _).mono ?_);rintro e w' ⟨rfl,rfl⟩))
   go_ret
   exact ⟨rfl,rfl⟩
 ·have e:codeOf b=0:=by simp [codeOf,hn]
  rw [e]
  clear e
  go_enter Tryz.func140,Tryz.ntmps140
  go_wp2_with (first|(go_at_call 106;(with_reducible refine (isNaN_any _ _).mono ?_);rintro e w' ⟨rfl,rfl⟩)|(go_at_call 195;(with_reducible refine (floCanon_any _ hb _).mono ?_);rintro e w' ⟨rfl,rfl⟩))
  go_ret
  exact ⟨rfl,rfl⟩

theorem floCmp_any (x y:Nat) (hx:x<2 ^ 64) (hy:y<2 ^ 64) (w:World) :
  Calls Tryz.prog 214 #[.float .f64 x,.float .f64 y] w fun e w'=>e=.returned (.int .i64 (cmpI (codeOf x) (codeOf y)))∧w=w':=by
 go_enter Tryz.func214,Tryz.ntmps214
 go_wp2_with (first|(go_at_call 140;(with_reducible refine (floCode_any _ (by assumption) _).mono ?_);rintro e w' ⟨rfl,rfl⟩)|(go_at_call 242;(with_reducible refine (compare_any _ _ _).mono ?_);rintro e w' ⟨rfl,rfl⟩))
 go_ret
 exact ⟨rfl,rfl⟩

def kMost (k l:Key):Key:=if k.v<l.v then l else k
def kLeast (k l:Key):Key:=if l.v<k.v then l else k

theorem codeOf_key (k:Key):codeOf k.bits=kcode k:=by simp [codeOf,k.bits_nan,k.kof_bits]
theorem cmp_keys (k l:Key):cmpI (codeOf k.bits) (codeOf l.bits)=cmpI k.v l.v:=by
 rw [codeOf_key,codeOf_key]
 have h1:=kcode_lt k l;have h2:=kcode_lt l k
 unfold cmpI
 by_cases h3:k.v<l.v
 ·rw [if_pos (h1.2 h3),if_pos h3]
 ·rw [if_neg (fun h=>h3 (h1.1 h)),if_neg h3]
  by_cases h4:l.v<k.v
  ·rw [if_pos (h2.2 h4),if_pos h4]
  ·rw [if_neg (fun h=>h4 (h2.1 h)),if_neg h4]

theorem floCmp_keys (k l:Key) (w:World) :
  Calls Tryz.prog 214 #[.float .f64 k.bits,.float .f64 l.bits] w fun e w'=>e=.returned (.int .i64 (cmpI k.v l.v))∧w=w':=by
 have h:=floCmp_any k.bits l.bits k.bits_lt l.bits_lt w
 rw [cmp_keys] at h
 exact h

def orI (x y:Int):Int:=if x=0 then y else x

theorem or_two (x y:Int) (b:Nat) (w:World) (h1:w.cell? ⟨b,0,none⟩=some (.int .i64 x)) (h2:w.cell? ⟨b,1,none⟩=some (.int .i64 y)) :
  Calls Tryz.prog 213 #[.slice (some ⟨b,0,none⟩) 2 2] w fun e w'=>e=.returned (.int .i64 (orI x y))∧w=w':=by
 by_cases hx:x=0
 ·have t1:(x != 0)=false:=by simp [hx]
  have e:orI x y=y:=by simp [orI,hx]
  by_cases hy:y=0
  ·have t2:(y != 0)=false:=by simp [hy]
   have H:Hid (orI x y=0):=by show _=_;rw [e,hy]
   clear e hx hy
   go_enter Tryz.func213,Tryz.ntmps213
   go_wp2_with fail
   go_loop [8] (fun i=>i=.int .i64 0∨i=.int .i64 1∨i=.int .i64 2) (fun i=>2-(intOf i).toNat)
   case atStart=>exact .inl rfl
   case round =>
    rcases hrel with rfl|rfl|rfl
    ·go_wp2
     go_round
     case rel=>exact .inr (.inl rfl)
     case measure=>simp [intOf]
    ·go_wp2
     go_round
     case rel=>exact .inr (.inr rfl)
     case measure=>simp [intOf]
    ·go_wp2
     go_ret
     exact ⟨ret_int H.out.symm,rfl⟩
  ·have t2:(y != 0)=true:=by simp [hy]
   have H:Hid (orI x y=y):=e
   clear e hx hy
   go_enter Tryz.func213,Tryz.ntmps213
   go_wp2_with fail
   go_loop [8] (fun i=>i=.int .i64 0∨i=.int .i64 1) (fun i=>2-(intOf i).toNat)
   case atStart=>exact .inl rfl
   case round =>
    rcases hrel with rfl|rfl
    ·go_wp2
     go_round
     case rel=>exact .inr rfl
     case measure=>simp [intOf]
    ·go_wp2
     go_ret
     exact ⟨ret_int H.out.symm,rfl⟩
 ·have t1:(x != 0)=true:=by simp [hx]
  have H:Hid (orI x y=x):=by show _=_;simp [orI,hx]
  clear hx
  go_enter Tryz.func213,Tryz.ntmps213
  go_wp2_with fail
  go_loop [8] (fun i=>i=.int .i64 0) (fun _=>0)
  case atStart=>rfl
  case round =>
   subst hrel
   go_wp2
   go_ret
   exact ⟨ret_int H.out.symm,rfl⟩

def cmpR:Rg→Rg→Int
 | none,none=>0
 | none,some _=>-1
 | some _,none=>1
 | some (l,h),some (l',h')=>orI (cmpI l.v l'.v) (cmpI h.v h'.v)

set_option maxRecDepth 100000 in
theorem cmp_nn (lo hi lo' hi':Nat) (a b a' b':Bool) (w:World) (hl:lo<2 ^ 64) (hh:hi<2 ^ 64) (hl':lo'<2 ^ 64) (hh':hi'<2 ^ 64) (hr:Hid (canonS lo hi a b=none)) (hr':Hid (canonS lo' hi' a' b'=none)) :
  Calls Tryz.prog 159 #[.agg #[.float .f64 lo,.float .f64 hi,.bool a,.bool b],.agg #[.float .f64 lo',.float .f64 hi',.bool a',.bool b']] w (Ret (.int .i64 0) w):=by
 go_enter Tryz.func159,Tryz.ntmps159
 go_wp2_with fail
 (refine wp_region_ext_tail 4 (by kernel_rfl) (by kernel_rfl) (by kernel_rfl) ?_;simp only [List.take_succ_cons,List.take_zero,List.drop_succ_cons,List.drop_zero];(repeat (go_big_quiet_step (first|(go_at_call 181;with_reducible exact Calls.ext_of (canon_isN _ _ _ _ _ (by assumption) (by assumption) (by assumption))))));refine mX ?_;intro w1 hb1 hc1 hf1 hz1;intros)
 (have cc1_0_0:=hc1 (w.heap.size) 0 lt_auto;have cf1_0_0:=hf1 (w.heap.size) 0 lt_auto;have cc1_0_1:=hc1 (w.heap.size) 1 lt_auto;have cf1_0_1:=hf1 (w.heap.size) 1 lt_auto;have cc1_0_2:=hc1 (w.heap.size) 2 lt_auto;have cf1_0_2:=hf1 (w.heap.size) 2 lt_auto;have cc1_0_3:=hc1 (w.heap.size) 3 lt_auto;have cf1_0_3:=hf1 (w.heap.size) 3 lt_auto;have cc1_1_0:=hc1 (w.heap.size+1) 0 lt_auto;have cf1_1_0:=hf1 (w.heap.size+1) 0 lt_auto;have cc1_1_1:=hc1 (w.heap.size+1) 1 lt_auto;have cf1_1_1:=hf1 (w.heap.size+1) 1 lt_auto;have cc1_1_2:=hc1 (w.heap.size+1) 2 lt_auto;have cf1_1_2:=hf1 (w.heap.size+1) 2 lt_auto;have cc1_1_3:=hc1 (w.heap.size+1) 3 lt_auto;have cf1_1_3:=hf1 (w.heap.size+1) 3 lt_auto;clear hc1 hf1;simp [go_sem] at cc1_0_0 cf1_0_0 cc1_0_1 cf1_0_1 cc1_0_2 cf1_0_2 cc1_0_3 cf1_0_3 cc1_1_0 cf1_1_0 cc1_1_1 cf1_1_1 cc1_1_2 cf1_1_2 cc1_1_3 cf1_1_3)
 go_wp2
 go_ret
 exact ⟨ret_int rfl,by exact below_auto⟩

set_option maxRecDepth 100000 in
theorem cmp_ns (lo hi lo' hi':Nat) (a b a' b':Bool) (w:World) (hl:lo<2 ^ 64) (hh:hi<2 ^ 64) (hl':lo'<2 ^ 64) (hh':hi'<2 ^ 64) (hr:Hid (canonS lo hi a b=none)) (l' h':Key) (hr':Hid (canonS lo' hi' a' b'=some (l',h'))) :
  Calls Tryz.prog 159 #[.agg #[.float .f64 lo,.float .f64 hi,.bool a,.bool b],.agg #[.float .f64 lo',.float .f64 hi',.bool a',.bool b']] w (Ret (.int .i64 (-1)) w):=by
 go_enter Tryz.func159,Tryz.ntmps159
 go_wp2_with fail
 (refine wp_region_ext_tail 4 (by kernel_rfl) (by kernel_rfl) (by kernel_rfl) ?_;simp only [List.take_succ_cons,List.take_zero,List.drop_succ_cons,List.drop_zero];(repeat (go_big_quiet_step (first|(go_at_call 181;with_reducible exact Calls.ext_of (canon_isN lo hi a b _ (by assumption) (by assumption) hr))|(go_at_call 181;with_reducible exact Calls.ext_of (canon_isS lo' hi' a' b' l' h' _ (by assumption) (by assumption) hr')))));refine mX ?_;intro w1 hb1 hc1 hf1 hz1;intros)
 (have cc1_0_0:=hc1 (w.heap.size) 0 lt_auto;have cf1_0_0:=hf1 (w.heap.size) 0 lt_auto;have cc1_0_1:=hc1 (w.heap.size) 1 lt_auto;have cf1_0_1:=hf1 (w.heap.size) 1 lt_auto;have cc1_0_2:=hc1 (w.heap.size) 2 lt_auto;have cf1_0_2:=hf1 (w.heap.size) 2 lt_auto;have cc1_0_3:=hc1 (w.heap.size) 3 lt_auto;have cf1_0_3:=hf1 (w.heap.size) 3 lt_auto;have cc1_1_0:=hc1 (w.heap.size+1) 0 lt_auto;have cf1_1_0:=hf1 (w.heap.size+1) 0 lt_auto;have cc1_1_1:=hc1 (w.heap.size+1) 1 lt_auto;have cf1_1_1:=hf1 (w.heap.size+1) 1 lt_auto;have cc1_1_2:=hc1 (w.heap.size+1) 2 lt_auto;have cf1_1_2:=hf1 (w.heap.size+1) 2 lt_auto;have cc1_1_3:=hc1 (w.heap.size+1) 3 lt_auto;have cf1_1_3:=hf1 (w.heap.size+1) 3 lt_auto;clear hc1 hf1;simp [go_sem] at cc1_0_0 cf1_0_0 cc1_0_1 cf1_0_1 cc1_0_2 cf1_0_2 cc1_0_3 cf1_0_3 cc1_1_0 cf1_1_0 cc1_1_1 cf1_1_1 cc1_1_2 cf1_1_2 cc1_1_3 cf1_1_3)
 go_wp2
 go_ret
 exact ⟨ret_int rfl,by exact below_auto⟩

set_option maxRecDepth 100000 in
theorem cmp_sn (lo hi lo' hi':Nat) (a b a' b':Bool) (w:World) (hl:lo<2 ^ 64) (hh:hi<2 ^ 64) (hl':lo'<2 ^ 64) (hh':hi'<2 ^ 64) (l h:Key) (hr:Hid (canonS lo hi a b=some (l,h))) (hr':Hid (canonS lo' hi' a' b'=none)) :
  Calls Tryz.prog 159 #[.agg #[.float .f64 lo,.float .f64 hi,.bool a,.bool b],.agg #[.float .f64 lo',.float .f64 hi',.bool a',.bool b']] w (Ret (.int .i64 1) w):=by
 go_enter Tryz.func159,Tryz.ntmps159
 go_wp2_with fail
 (refine wp_region_ext_tail 4 (by kernel_rfl) (by kernel_rfl) (by kernel_rfl) ?_;simp only [List.take_succ_cons,List.take_zero,List.drop_succ_cons,List.drop_zero];(repeat (go_big_quiet_step (first|(go_at_call 181;with_reducible exact Calls.ext_of (canon_isS lo hi a b l h _ (by assumption) (by assumption) hr))|(go_at_call 181;with_reducible exact Calls.ext_of (canon_isN lo' hi' a' b' _ (by assumption) (by assumption) hr')))));refine mX ?_;intro w1 hb1 hc1 hf1 hz1;intros)
 (have cc1_0_0:=hc1 (w.heap.size) 0 lt_auto;have cf1_0_0:=hf1 (w.heap.size) 0 lt_auto;have cc1_0_1:=hc1 (w.heap.size) 1 lt_auto;have cf1_0_1:=hf1 (w.heap.size) 1 lt_auto;have cc1_0_2:=hc1 (w.heap.size) 2 lt_auto;have cf1_0_2:=hf1 (w.heap.size) 2 lt_auto;have cc1_0_3:=hc1 (w.heap.size) 3 lt_auto;have cf1_0_3:=hf1 (w.heap.size) 3 lt_auto;have cc1_1_0:=hc1 (w.heap.size+1) 0 lt_auto;have cf1_1_0:=hf1 (w.heap.size+1) 0 lt_auto;have cc1_1_1:=hc1 (w.heap.size+1) 1 lt_auto;have cf1_1_1:=hf1 (w.heap.size+1) 1 lt_auto;have cc1_1_2:=hc1 (w.heap.size+1) 2 lt_auto;have cf1_1_2:=hf1 (w.heap.size+1) 2 lt_auto;have cc1_1_3:=hc1 (w.heap.size+1) 3 lt_auto;have cf1_1_3:=hf1 (w.heap.size+1) 3 lt_auto;clear hc1 hf1;simp [go_sem] at cc1_0_0 cf1_0_0 cc1_0_1 cf1_0_1 cc1_0_2 cf1_0_2 cc1_0_3 cf1_0_3 cc1_1_0 cf1_1_0 cc1_1_1 cf1_1_1 cc1_1_2 cf1_1_2 cc1_1_3 cf1_1_3)
 go_wp2
 go_ret
 exact ⟨ret_int rfl,by exact below_auto⟩

set_option maxRecDepth 100000 in
theorem cmp_ss (lo hi lo' hi':Nat) (a b a' b':Bool) (w:World) (hl:lo<2 ^ 64) (hh:hi<2 ^ 64) (hl':lo'<2 ^ 64) (hh':hi'<2 ^ 64) (l h l' h':Key) (hr:Hid (canonS lo hi a b=some (l,h))) (hr':Hid (canonS lo' hi' a' b'=some (l',h'))) :
  Calls Tryz.prog 159 #[.agg #[.float .f64 lo,.float .f64 hi,.bool a,.bool b],.agg #[.float .f64 lo',.float .f64 hi',.bool a',.bool b']] w (Ret (.int .i64 (orI (cmpI l.v l'.v) (cmpI h.v h'.v))) w):=by
 go_enter Tryz.func159,Tryz.ntmps159
 go_wp2_with fail
 (refine wp_region_ext_tail 4 (by kernel_rfl) (by kernel_rfl) (by kernel_rfl) ?_;simp only [List.take_succ_cons,List.take_zero,List.drop_succ_cons,List.drop_zero];(repeat (go_big_quiet_step (first|(go_at_call 181;with_reducible exact Calls.ext_of (canon_isS lo hi a b l h _ (by assumption) (by assumption) hr))|(go_at_call 181;with_reducible exact Calls.ext_of (canon_isS lo' hi' a' b' l' h' _ (by assumption) (by assumption) hr')))));refine mX ?_;intro w1 hb1 hc1 hf1 hz1;intros)
 (have cc1_0_0:=hc1 (w.heap.size) 0 lt_auto;have cf1_0_0:=hf1 (w.heap.size) 0 lt_auto;have cc1_0_1:=hc1 (w.heap.size) 1 lt_auto;have cf1_0_1:=hf1 (w.heap.size) 1 lt_auto;have cc1_0_2:=hc1 (w.heap.size) 2 lt_auto;have cf1_0_2:=hf1 (w.heap.size) 2 lt_auto;have cc1_0_3:=hc1 (w.heap.size) 3 lt_auto;have cf1_0_3:=hf1 (w.heap.size) 3 lt_auto;have cc1_1_0:=hc1 (w.heap.size+1) 0 lt_auto;have cf1_1_0:=hf1 (w.heap.size+1) 0 lt_auto;have cc1_1_1:=hc1 (w.heap.size+1) 1 lt_auto;have cf1_1_1:=hf1 (w.heap.size+1) 1 lt_auto;have cc1_1_2:=hc1 (w.heap.size+1) 2 lt_auto;have cf1_1_2:=hf1 (w.heap.size+1) 2 lt_auto;have cc1_1_3:=hc1 (w.heap.size+1) 3 lt_auto;have cf1_1_3:=hf1 (w.heap.size+1) 3 lt_auto;clear hc1 hf1;simp [go_sem] at cc1_0_0 cf1_0_0 cc1_0_1 cf1_0_1 cc1_0_2 cf1_0_2 cc1_0_3 cf1_0_3 cc1_1_0 cf1_1_0 cc1_1_1 cf1_1_1 cc1_1_2 cf1_1_2 cc1_1_3 cf1_1_3)
 go_wp2_with fail
 (generalize hW2:World.setCell _ _ _=w2;have hB2:Below w.heap.size w w2:=(by rw [←hW2];exact below_auto);have hS2:=congrArg (fun W=>W.heap.size) hW2.symm;simp [go_sem] at hS2;have cc2_0_0:=congrArg (fun W=>W.cell? ⟨w.heap.size,0,none⟩) hW2.symm;have cf2_0_0:=congrArg (fun W=>W.frozen? ⟨w.heap.size,0,none⟩) hW2.symm;have cc2_0_1:=congrArg (fun W=>W.cell? ⟨w.heap.size,1,none⟩) hW2.symm;have cf2_0_1:=congrArg (fun W=>W.frozen? ⟨w.heap.size,1,none⟩) hW2.symm;have cc2_1_0:=congrArg (fun W=>W.cell? ⟨w.heap.size+1,0,none⟩) hW2.symm;have cf2_1_0:=congrArg (fun W=>W.frozen? ⟨w.heap.size+1,0,none⟩) hW2.symm;have cc2_1_1:=congrArg (fun W=>W.cell? ⟨w.heap.size+1,1,none⟩) hW2.symm;have cf2_1_1:=congrArg (fun W=>W.frozen? ⟨w.heap.size+1,1,none⟩) hW2.symm;clear hW2;simp [go_sem, *] at cc2_0_0;simp [go_sem, *] at cf2_0_0;simp [go_sem, *] at cc2_0_1;simp [go_sem, *] at cf2_0_1;simp [go_sem, *] at cc2_1_0;simp [go_sem, *] at cf2_1_0;simp [go_sem, *] at cc2_1_1;simp [go_sem, *] at cf2_1_1;(try have hw2_0:w.heap.size<w2.heap.size:=by omega);(try have hw2_1:w.heap.size+1<w2.heap.size:=by omega);(try have hw2_2:w.heap.size+1+1<w2.heap.size:=by omega);(try have hw2_3:w.heap.size+1+1+1<w2.heap.size:=by omega);clear hS2;(try clear hb1);(try clear hz1);(try clear hB1);(try clear cc1_0_0);(try clear cf1_0_0);(try clear cc1_0_1);(try clear cf1_0_1);(try clear cc1_1_0);(try clear cf1_1_0);(try clear cc1_1_1);(try clear cf1_1_1);(try clear hy1_0);(try clear hx1_0);(try clear hw1_0);(try clear hy1_1);(try clear hx1_1);(try clear hw1_1);(try clear hy1_2);(try clear hx1_2);(try clear hw1_2);(try clear hy1_3);(try clear hx1_3);(try clear hw1_3))
 (refine wp_region_ext_tail 10 (by kernel_rfl) (by kernel_rfl) (by kernel_rfl) ?_;simp only [List.take_succ_cons,List.take_zero,List.drop_succ_cons,List.drop_zero];(repeat (go_big_quiet_step (first|(go_at_call 214;with_reducible exact Calls.ext_same (floCmp_keys _ _ _)))));refine mX ?_;intro w3 hb3 hc3 hf3 hz3;intros)
 go_wp2_with (go_at_call 213;(with_reducible refine (or_two (cmpI l.v l'.v) (cmpI h.v h'.v) _ _ (by simp [go_sem]) (by simp [go_sem])).mono ?_);rintro e w' ⟨rfl,rfl⟩)
 go_ret
 exact ⟨ret_int rfl,by exact below_auto⟩

theorem cmp_any (lo hi lo' hi':Nat) (a b a' b':Bool) (w:World) (hl:lo<2 ^ 64) (hh:hi<2 ^ 64) (hl':lo'<2 ^ 64) (hh':hi'<2 ^ 64) :
  Calls Tryz.prog 159 #[.agg #[.float .f64 lo,.float .f64 hi,.bool a,.bool b],.agg #[.float .f64 lo',.float .f64 hi',.bool a',.bool b']] w (Ret (.int .i64 (cmpR (canonS lo hi a b) (canonS lo' hi' a' b'))) w):=by
 obtain ⟨r,hr⟩:∃ r,canonS lo hi a b=r:=⟨_,rfl⟩
 obtain ⟨r',hr'⟩:∃ r',canonS lo' hi' a' b'=r':=⟨_,rfl⟩
 rw [hr,hr']
 rcases r with _|⟨l,h⟩
 ·rcases r' with _|⟨l',h'⟩
  ·exact cmp_nn lo hi lo' hi' a b a' b' w hl hh hl' hh' hr hr'
  ·exact cmp_ns lo hi lo' hi' a b a' b' w hl hh hl' hh' hr l' h' hr'
 ·rcases r' with _|⟨l',h'⟩
  ·exact cmp_sn lo hi lo' hi' a b a' b' w hl hh hl' hh' l h hr hr'
  ·exact cmp_ss lo hi lo' hi' a b a' b' w hl hh hl' hh' l h l' h' hr hr'

end Go.Proofs.YtdeeoddacnealaaGreat