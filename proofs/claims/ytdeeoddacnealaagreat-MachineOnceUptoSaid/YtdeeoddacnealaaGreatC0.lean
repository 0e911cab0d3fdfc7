/- Walks of flo: Code, Cmp, Most, Least (of two). -/
import Derived.Test.YtdeeoddacnealaaGreatMFL
import Derived.Test.YtdeeoddacnealaaGreatMA
set_option linter.unusedVariables false
namespace Go.Proofs.YtdeeoddacnealaaGreat
open Go.RowKit Fl

def cmpI (x y:Int):Int:=if x<y then -1 else if y<x then 1 else 0

theorem compare_any (x y:Int) (w:World) :
  Calls Tryz.prog 242 #[.int .u64 x,.int .u64 y] w fun e w'=>e=.returned (.int .i64 (cmpI x y))∧w=w':=by
 have h1:(x != x)=false:=by simp
 have h2:(y != y)=false:=by simp
 by_cases hlt:x<y
 ·have e:cmpI x y = -1:=by simp [cmpI,hlt]
  rw [e]
  clear e
  go_enter Tryz.func242,Tryz.ntmps242
  go_wp2
  go_ret
  exact ⟨rfl,rfl⟩
 ·by_cases hgt:y<x
  ·have e:cmpI x y=1:=by simp [cmpI,hlt,hgt]
   rw [e]
   clear e
   go_enter Tryz.func242,Tryz.ntmps242
   go_wp2
   go_ret
   exact ⟨rfl,rfl⟩
  ·have e:cmpI x y=0:=by simp [cmpI,hlt,hgt]
   rw [e]
   clear e
   go_enter Tryz.func242,Tryz.ntmps242
   go_wp2
   go_ret
   exact ⟨rfl,rfl⟩

theorem nat_xor_all {b:Nat} (hb:b<2 ^ 64):(2 ^ 64-1) ^^^ b=2 ^ 64-(b+1):=by
 apply Nat.eq_of_testBit_eq
 intro i
 rw [Nat.testBit_xor,Nat.testBit_two_pow_sub_one,Nat.testBit_two_pow_sub_succ hb]
 by_cases hi:i<64
 ·simp [hi]
 ·have:b.testBit i=false:=Nat.testBit_lt_two_pow (Nat.lt_of_lt_of_le hb (Nat.pow_le_pow_right (by omega) (by omega)))
  simp [hi,this]
theorem bits_xor_all {b:Nat} (hb:b<2 ^ 64):bits BinOp.xor IntKind.u64 IntKind.u64.max (b:Int)=((2 ^ 64-(b+1):Nat):Int):=by
 have h:=u64_xor_nat 18446744073709551615 b (by omega) (by omega)
 rw [show IntKind.u64.max=((18446744073709551615:Nat):Int) from rfl,h,←nat_xor_all hb]

theorem floCode_any (b:Nat) (hb:b<2 ^ 64) (w:World) :
  Calls Tryz.prog 140 #[.float .f64 b] w fun e w'=>e=.returned (.int .u64 (codeOf b))∧w=w':=by
 have hsg:IntKind.u64.signed=false:=rfl
 cases hn:isNaN b
 ·have e:codeOf b=kcode (kof b):=by simp [codeOf,hn]
  have e2:cbits b=(kof b).bits:=cbits_num hn
  have hk1:=(kof b).lo;have hk2:=(kof b).hi;have hk3:=(kof b).bits_lt
  by_cases hp:0≤(kof b).v
  ·have hb1:(kof b).bits<top:=by unfold Key.bits inf top at *;rw [if_pos hp];omega
   have h1:(bits BinOp.and IntKind.u64 ((kof b).bits:Int) 9223372036854775808 == 0)=true:=by rw [bits_and_top hk3,if_pos hb1];rfl
   have h2:bits BinOp.or IntKind.u64 ((kof b).bits:Int) 9223372036854775808=codeOf b:=by
    rw [bits_or_top hb1,e];unfold kcode Key.bits top;rw [if_pos hp,if_pos hp];omega
   clear hk1 hk2 hk3 hb1 e hp
   go_enter Tryz.func140,Tryz.ntmps140
   go_wp2_with (first|(go_at_call 106;(with_reducible refine (isNaN_any _ _).mono ?_);rintro e w' ⟨rfl,rfl⟩)|(go_at_call 195;(with_reducible refine (floCanon_any _ hb _).mono ?_);rintro e w' ⟨rfl,rfl⟩))
   go_ret
   exact ⟨rfl,rfl⟩
  ·have hb1:¬(kof b).bits<top:=by unfold Key.bits;rw [if_neg hp];omega
   have h1:(bits BinOp.and IntKind.u64 ((kof b).bits:Int) 9223372036854775808 == 0)=false:=by rw [bits_and_top hk3,if_neg hb1];rfl
   have h2:bits BinOp.xor IntKind.u64 IntKind.u64.max ((kof b).bits:Int)=codeOf b:=by
    rw [bits_xor_all hk3,e];unfold kcode Key.bits inf top at *;rw [if_neg hp,if_neg hp];omega
   clear hk1 hk2 hk3 hb1 e hp
   go_enter Tryz.func140,Tryz.ntmps140
   go_wp2_with (first|(go_at_call 106;(with_reducible refine (isNaN_any _ _).mono ?_);rintro e w' ⟨rfl,rfl⟩)|(go_at_call 195;(with_reducible refine (floCanon_any _ hb _).mono ?_);rintro e w' ⟨rfl,rfl⟩))
   go_ret
   exact ⟨rfl,rfl⟩
 ·have e:codeOf b=0:=by simp [codeOf,hn]
  rw [e]
  clear e
  go_enter Tryz.func140,Tryz.ntmps140
  go_wp2_with (first|(go_at_call 106;(with_reducible refine (isNaN_any _ _).mono ?_);rintro e w' ⟨rfl,rfl⟩)|(go_at_call 195;(with_reducible refine (floCanon_any _ hb _).mono ?_);rintro e w' ⟨rfl,rfl⟩))
  go_ret
  exact ⟨rfl,rfl⟩

theorem floCmp_any (x y:Nat) (hx:x<2 ^ 64) (hy:y<2 ^ 64) (w:World) :
  Calls Tryz.prog 214 #[.float .f64 x,.float .f64 y] w fun e w'=>e=.returned (.int .i64 (cmpI (codeOf x) (codeOf y)))∧w=w':=by
 go_enter Tryz.func214,Tryz.ntmps214
 go_wp2_with (first|(go_at_call 140;(with_reducible refine (floCode_any _ (by assumption) _).mono ?_);rintro e w' ⟨rfl,rfl⟩)|(go_at_call 242;(with_reducible refine (compare_any _ _ _).mono ?_);rintro e w' ⟨rfl,rfl⟩))
 go_ret
 exact ⟨rfl,rfl⟩

def kMost (k l:Key):Key:=if k.v<l.v then l else k
def kLeast (k l:Key):Key:=if l.v<k.v then l else k

theorem codeOf_key (k:Key):codeOf k.bits=kcode k:=by simp [codeOf,k.bits_nan,k.kof_bits]
theorem cmp_keys (k l:Key):cmpI (codeOf k.bits) (codeOf l.bits)=cmpI k.v l.v:=by
 rw [codeOf_key,codeOf_key]
 have h1:=kcode_lt k l;have h2:=kcode_lt l k
 unfold cmpI
 by_cases h3:k.v<l.v
 ·rw [if_pos (h1.2 h3),if_pos h3]
 ·rw [if_neg (fun h=>h3 (h1.1 h)),if_neg h3]
  by_cases h4:l.v<k.v
  ·rw [if_pos (h2.2 h4),if_pos h4]
  ·rw [if_neg (fun h=>h4 (h2.1 h)),if_neg h4]

theorem floCmp_keys (k l:Key) (w:World) :
  Calls Tryz.prog 214 #[.float .f64 k.bits,.float .f64 l.bits] w fun e w'=>e=.returned (.int .i64 (cmpI k.v l.v))∧w=w':=by
 have h:=floCmp_any k.bits l.bits k.bits_lt l.bits_lt w
 rw [cmp_keys] at h
 exact h

end Go.Proofs.YtdeeoddacnealaaGreat