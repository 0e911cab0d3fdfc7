/- Several texts as one: Flt A1 R1. -/
import Derived.Test.YtdeeoddacnealaaGreatQ0
import GoSem.Core.Float
import GoSem.Core.Value
import GoSem.Op.Unary
import Derived.Test.YtdeeoddacnealaaGreatChecked
import Derived.Test.YtdeeoddacnealaaGreatMac
import Derived.WalkKit
import Derived.WalkLawsBesides
import Derived.WalkSpells
import Derived.Deep.QuietTactic
import Derived.BigQuiet
set_option linter.unusedVariables false
namespace Go.Proofs.YtdeeoddacnealaaGreat

namespace Fl

def inf:Nat:=0x7ff0000000000000
def top:Nat:=0x8000000000000000
def nanBits:Nat:=0x7ff8000000000001

def fkey (b:Nat):Int:=if b / top % 2 == 1 then -((b % top:Nat):Int) else ((b % top:Nat):Int)

def isNaN (b:Nat):Bool:=decide (inf<b % top)

def mag (r:Nat):Nat:=if r<2 ^ 52 then r else (2 ^ 52+r % 2 ^ 52) * 2 ^ (r / 2 ^ 52-1)

theorem mag_succ (r:Nat):mag r<mag (r+1):=by
 unfold mag
 by_cases h:r+1<2 ^ 52
 ·rw [if_pos (by omega),if_pos h];omega
 ·by_cases h0:r<2 ^ 52
  ·have:r=2 ^ 52-1:=by omega
   subst this
   simp
  ·rw [if_neg h0,if_neg (by omega)]
   by_cases hf:r % 2 ^ 52+1<2 ^ 52
   ·have e1:(r+1) % 2 ^ 52=r % 2 ^ 52+1:=by omega
    have e2:(r+1) / 2 ^ 52=r / 2 ^ 52:=by omega
    rw [e1,e2]
    exact Nat.mul_lt_mul_of_pos_right (by omega) (Nat.two_pow_pos _)
   ·have e1:(r+1) % 2 ^ 52=0:=by omega
    have e2:(r+1) / 2 ^ 52-1=(r / 2 ^ 52-1)+1:=by omega
    have e3:r % 2 ^ 52=2 ^ 52-1:=by omega
    rw [e1,e2,e3]
    have p1:0<2 ^ (r / 2 ^ 52-1):=Nat.two_pow_pos _
    have p2:2 ^ (r / 2 ^ 52-1+1)=2 ^ (r / 2 ^ 52-1) * 2:=Nat.pow_succ ..
    rw [p2]
    generalize 2 ^ (r / 2 ^ 52-1)=q at *
    omega

theorem mag_lt {a b:Nat} (h:a<b):mag a<mag b:=by
 induction b with
 | zero=>omega
 | succ b ih =>
  by_cases hb:a=b
  ·subst hb;exact mag_succ _
  ·exact Nat.lt_trans (ih (by omega)) (mag_succ _)

theorem mag_zero:mag 0=0:=by simp [mag]

theorem mag_inj {a b:Nat} (h:mag a=mag b):a=b:=by
 rcases Nat.lt_trichotomy a b with h1|h1|h1
 ·have:=mag_lt h1;omega
 ·exact h1
 ·have:=mag_lt h1;omega

def sg (s:Bool) (n:Nat):Int:=if s then -(n:Int) else (n:Int)

theorem cmp_sg_mag (s t:Bool) (a b:Nat):compare (sg s (mag a)) (sg t (mag b))=compare (sg s a) (sg t b):=by
 have key:∀ x y:Int,∀ u v:Int,((x<y)↔(u<v))→((x=y)↔(u=v))→compare x y=compare u v:=by
  intro x y u v h1 h2
  simp only [compare,compareOfLessAndEq,h1,h2]
 have hz:∀ n,mag n=0↔n=0:=fun n=>⟨fun h=>mag_inj (by rw [h,mag_zero]),fun h=>by rw [h,mag_zero]⟩
 have hza:=hz a;have hzb:=hz b
 rcases Nat.lt_trichotomy a b with h|h|h
 ·have:=mag_lt h
  apply key <;> cases s <;> cases t <;> simp only [sg,if_true,if_false,Bool.false_eq_true] <;> omega
 ·subst h
  apply key <;> cases s <;> cases t <;> simp only [sg,if_true,if_false,Bool.false_eq_true] <;> omega
 ·have:=mag_lt h
  apply key <;> cases s <;> cases t <;> simp only [sg,if_true,if_false,Bool.false_eq_true] <;> omega

theorem cmp_scale (a b:Int) (c:Nat) (hc:0<c):compare (a * c) (b * c)=compare a b:=by
 have h1:(a * c<b * c)↔a<b:=Int.mul_lt_mul_right (by omega)
 have h2:(a * c=b * c)↔a=b:=⟨fun h=>Int.eq_of_mul_eq_mul_right (by omega) h,fun h=>by rw [h]⟩
 simp only [compare,compareOfLessAndEq,h1,h2]

theorem signed_eq (s:Bool) (m u:Nat):Ieee.signed s m u=sg s (m * 2 ^ u):=by
 simp [Ieee.signed,sg,Nat.shiftLeft_eq]

theorem sg_mul (s:Bool) (m c:Nat):sg s m * c=sg s (m * c):=by
 cases s <;> simp [sg,Int.neg_mul]

theorem read_fin (b:Nat) (h:b % top<inf):∃ m e:Nat,(Ieee.double.read b)=.number (b / top % 2 == 1) m ((e:Int)-1074)∧m * 2 ^ e=mag (b % top):=by
 unfold top inf at *
 unfold Ieee.Format.read
 have e1:Ieee.double.signWeight=0x8000000000000000:=by decide
 have e2:Ieee.double.binade=2 ^ 52:=by decide
 have e3:Ieee.double.infRung=0x7ff0000000000000:=by decide
 have e4:Ieee.double.leastPlace = -1074:=by decide
 rw [e1,e2,e3,e4]
 simp only
 by_cases h0:b % 0x8000000000000000<2 ^ 52
 ·rw [if_pos h0]
  refine ⟨b % 0x8000000000000000,0,?_,?_⟩
  ·simp
  ·simp only [mag];rw [if_pos h0];simp
 ·rw [if_neg h0,if_pos h]
  refine ⟨2 ^ 52+b % 0x8000000000000000 % 2 ^ 52,b % 0x8000000000000000 / 2 ^ 52-1,?_,?_⟩
  ·congr 1
  ·simp only [mag];rw [if_neg h0]

theorem read_inf (b:Nat) (h:b % top=inf):(Ieee.double.read b)=.infinity (b / top % 2 == 1):=by
 unfold top inf at *
 unfold Ieee.Format.read
 have e1:Ieee.double.signWeight=0x8000000000000000:=by decide
 have e2:Ieee.double.binade=2 ^ 52:=by decide
 have e3:Ieee.double.infRung=0x7ff0000000000000:=by decide
 rw [e1,e2,e3]
 simp only
 rw [if_neg (by omega),if_neg (by omega),if_pos h]

theorem read_nan (b:Nat) (h:inf<b % top):∃ f,(Ieee.double.read b)=.nan (b / top % 2 == 1) f:=by
 unfold top inf at *
 unfold Ieee.Format.read
 have e1:Ieee.double.signWeight=0x8000000000000000:=by decide
 have e2:Ieee.double.binade=2 ^ 52:=by decide
 have e3:Ieee.double.infRung=0x7ff0000000000000:=by decide
 rw [e1,e2,e3]
 simp only
 rw [if_neg (by omega),if_neg (by omega),if_neg (by omega)]
 exact ⟨_,rfl⟩

theorem order_nan_left (a b:Nat) (h:isNaN a=true):FloatKind.f64.format.order a b=none:=by
 simp only [isNaN,decide_eq_true_eq] at h
 obtain ⟨f,hf⟩:=read_nan a h
 show Ieee.double.order a b=none
 simp only [Ieee.Format.order,hf]
 simp [Ieee.Datum.order]

theorem order_nan_right (a b:Nat) (h:isNaN b=true):FloatKind.f64.format.order a b=none:=by
 simp only [isNaN,decide_eq_true_eq] at h
 obtain ⟨f,hf⟩:=read_nan b h
 show Ieee.double.order a b=none
 simp only [Ieee.Format.order,hf]
 cases Ieee.double.read a <;> simp [Ieee.Datum.order]

theorem fkey_eq (b:Nat):fkey b=sg (b / top % 2 == 1) (b % top):=rfl

theorem order_num (a b:Nat) (ha:isNaN a=false) (hb:isNaN b=false):FloatKind.f64.format.order a b=some (compare (fkey a) (fkey b)):=by
 have ha':b % top≤inf:=by simp [isNaN] at hb;exact hb
 have hb':a % top≤inf:=by simp [isNaN] at ha;exact ha
 show Ieee.double.order a b=_
 rw [fkey_eq,fkey_eq]
 simp only [Ieee.Format.order]
 by_cases h1:a % top=inf
 ·rw [read_inf a h1]
  by_cases h2:b % top=inf
  ·rw [read_inf b h2,h1,h2]
   unfold inf
   cases (a / top % 2 == 1) <;> cases (b / top % 2 == 1) <;> simp [Ieee.Datum.order,sg] <;> decide
  ·obtain ⟨n,f,hn,hf⟩:=read_fin b (by omega)
   rw [hn,h1]
   have:b % top<inf:=by omega
   generalize b % top=r at *
   unfold inf at *
   cases (a / top % 2 == 1) <;> cases (b / top % 2 == 1) <;> simp [Ieee.Datum.order,sg,compare,compareOfLessAndEq] <;> (try split) <;> (try split) <;> first|rfl|omega
 ·obtain ⟨m,e,hm,he⟩:=read_fin a (by omega)
  rw [hm]
  by_cases h2:b % top=inf
  ·rw [read_inf b h2,h2]
   have:a % top<inf:=by omega
   generalize a % top=r at *
   unfold inf at *
   cases (a / top % 2 == 1) <;> cases (b / top % 2 == 1) <;> simp [Ieee.Datum.order,sg,compare,compareOfLessAndEq] <;> (try split) <;> (try split) <;> first|rfl|omega
  ·obtain ⟨n,f,hn,hf⟩:=read_fin b (by omega)
   rw [hn]
   generalize (a / top % 2 == 1)=s
   generalize (b / top % 2 == 1)=t
   simp only [Ieee.Datum.order,signed_eq]
   rw [←cmp_sg_mag s t (a % top) (b % top),←he,←hf]
   congr 1
   rcases Nat.le_total e f with h|h
   ·obtain ⟨d,rfl⟩:=Nat.exists_eq_add_of_le h
    have e1:min ((e:Int)-1074) (((e+d:Nat):Int)-1074)=(e:Int)-1074:=by omega
    rw [e1]
    have e2:((e:Int)-1074-((e:Int)-1074)).toNat=0:=by omega
    have e3:(((e+d:Nat):Int)-1074-((e:Int)-1074)).toNat=d:=by omega
    rw [e2,e3,Nat.pow_add,←cmp_scale _ _ (2 ^ e) (Nat.two_pow_pos _),sg_mul,sg_mul,Nat.pow_zero,Nat.mul_one]
    congr 2
    rw [Nat.mul_assoc,Nat.mul_comm (2 ^ d)]
   ·obtain ⟨d,rfl⟩:=Nat.exists_eq_add_of_le h
    have e1:min (((f+d:Nat):Int)-1074) ((f:Int)-1074)=(f:Int)-1074:=by omega
    rw [e1]
    have e2:((f:Int)-1074-((f:Int)-1074)).toNat=0:=by omega
    have e3:(((f+d:Nat):Int)-1074-((f:Int)-1074)).toNat=d:=by omega
    rw [e2,e3,Nat.pow_add,←cmp_scale _ _ (2 ^ f) (Nat.two_pow_pos _),sg_mul,sg_mul,Nat.pow_zero,Nat.mul_one]
    congr 2
    rw [Nat.mul_assoc,Nat.mul_comm (2 ^ d)]

structure Key where
 v:Int
 lo:-(inf:Int)≤v
 hi:v≤(inf:Int)

theorem Key.ext' {a b:Key} (h:a.v=b.v):a=b:=by cases a;cases b;simp at h;subst h;rfl
theorem Key.eq_iff {a b:Key}:a=b↔a.v=b.v:=⟨fun h=>by rw [h],Key.ext'⟩

def Key.bits (k:Key):Nat:=if 0≤k.v then k.v.toNat else top+(-k.v).toNat

theorem Key.bits_lt (k:Key):k.bits<2 ^ 64:=by
 have h1:=k.lo;have h2:=k.hi
 unfold Key.bits inf top at *
 split <;> omega

theorem Key.bits_nan (k:Key):isNaN k.bits=false:=by
 have h1:=k.lo;have h2:=k.hi
 unfold Key.bits isNaN inf top at *
 simp only [decide_eq_false_iff_not]
 split <;> omega

theorem Key.bits_fkey (k:Key):fkey k.bits=k.v:=by
 have h1:=k.lo;have h2:=k.hi
 unfold Key.bits fkey inf top at *
 split
 ·have e:k.v.toNat / 9223372036854775808=0:=by omega
  have e':k.v.toNat % 9223372036854775808=k.v.toNat:=by omega
  rw [e,e'];simp;omega
 ·have e:(9223372036854775808+(-k.v).toNat) / 9223372036854775808=1:=by omega
  have e':(9223372036854775808+(-k.v).toNat) % 9223372036854775808=(-k.v).toNat:=by omega
  rw [e,e'];simp;omega

theorem fkey_bd (b:Nat) (h:isNaN b=false):-(inf:Int)≤fkey b∧fkey b≤(inf:Int):=by
 simp [isNaN] at h
 unfold fkey
 split <;> omega

def kof (b:Nat):Key:=if h:isNaN b=false then ⟨fkey b,(fkey_bd b h).1,(fkey_bd b h).2⟩ else ⟨0,by unfold inf;omega,by unfold inf;omega⟩

theorem kof_v {b:Nat} (h:isNaN b=false):(kof b).v=fkey b:=by simp [kof,h]
theorem Key.kof_bits (k:Key):kof k.bits=k:=Key.ext' (by rw [kof_v k.bits_nan,k.bits_fkey])

theorem fkey_pos {b:Nat} (h:b<top):fkey b=(b:Int):=by
 unfold fkey;rw [Nat.div_eq_of_lt h,Nat.mod_eq_of_lt h];simp
theorem fkey_neg {b:Nat} (h:top≤b) (h2:b<top+top):fkey b = -((b-top:Nat):Int):=by
 have e1:b / top=1:=Nat.div_eq_of_lt_le (by omega) (by omega)
 have e2:b % top=b-top:=by rw [Nat.mod_eq_sub_mod h,Nat.mod_eq_of_lt (by omega)]
 unfold fkey;rw [e1,e2];simp

theorem two64:2 ^ 64=top+top:=by unfold top;rfl

theorem bits_kof {b:Nat} (hb:b<2 ^ 64) (h:isNaN b=false) (hz:b≠top):(kof b).bits=b:=by
 have hv:=kof_v h
 rw [two64] at hb
 unfold Key.bits
 rw [hv]
 by_cases hlt:b<top
 ·rw [fkey_pos hlt,if_pos (by omega)];omega
 ·rw [fkey_neg (by omega) hb,if_neg (by omega)];omega

theorem kof_top:kof top=⟨0,by unfold inf;omega,by unfold inf;omega⟩:=by
 apply Key.ext'
 rw [kof_v (by simp [isNaN,inf,top])]
 simp [fkey,top]

theorem cmp_lt (a b:Int):(some (compare a b) == some Ordering.lt)=decide (a<b):=by
 simp only [compare,compareOfLessAndEq]
 by_cases h:a<b
 ·simp [h]
 ·by_cases h2:a=b <;> simp [h,h2]
theorem cmp_eq (a b:Int):(some (compare a b) == some Ordering.eq)=decide (a=b):=by
 simp only [compare,compareOfLessAndEq]
 by_cases h:a<b
 ·have:a≠b:=by omega
  simp [h,this]
 ·by_cases h2:a=b <;> simp [h,h2]
theorem cmp_gt (a b:Int):(some (compare a b) == some Ordering.gt)=decide (b<a):=by
 simp only [compare,compareOfLessAndEq]
 by_cases h:a<b
 ·have:¬b<a:=by omega
  simp [h,this]
 ·by_cases h2:a=b
  ·subst h2;simp
  ·have:b<a:=by omega
   simp [h,h2,this]

def feq (a b:Nat):Bool:=!isNaN a && !isNaN b && decide ((kof a).v=(kof b).v)
def flt (a b:Nat):Bool:=!isNaN a && !isNaN b && decide ((kof a).v<(kof b).v)
def fle (a b:Nat):Bool:=!isNaN a && !isNaN b && decide ((kof a).v≤(kof b).v)

theorem ord_eq (a b:Nat):(FloatKind.f64.format.order a b == some Ordering.eq)=feq a b:=by
 unfold feq
 cases ha:isNaN a
 ·cases hb:isNaN b
  ·rw [order_num a b ha hb,cmp_eq,kof_v ha,kof_v hb];simp
  ·rw [order_nan_right a b hb];simp
 ·rw [order_nan_left a b ha];simp
theorem ord_lt (a b:Nat):(FloatKind.f64.format.order a b == some Ordering.lt)=flt a b:=by
 unfold flt
 cases ha:isNaN a
 ·cases hb:isNaN b
  ·rw [order_num a b ha hb,cmp_lt,kof_v ha,kof_v hb];simp
  ·rw [order_nan_right a b hb];simp
 ·rw [order_nan_left a b ha];simp
theorem ord_gt (a b:Nat):(FloatKind.f64.format.order a b == some Ordering.gt)=flt b a:=by
 unfold flt
 cases ha:isNaN a
 ·cases hb:isNaN b
  ·rw [order_num a b ha hb,cmp_gt,kof_v ha,kof_v hb];simp
  ·rw [order_nan_right a b hb];simp
 ·rw [order_nan_left a b ha];simp
theorem ord_ne (a b:Nat):(FloatKind.f64.format.order a b != some Ordering.eq)=!feq a b:=by
 rw [←ord_eq];rfl
theorem lt_or_eq (a b:Nat):(flt a b||feq a b)=fle a b:=by
 unfold flt feq fle
 cases isNaN a <;> cases isNaN b <;> simp
 rw [←Bool.decide_or]
 apply decide_eq_decide.2
 omega
theorem gt_or_eq (a b:Nat):(flt b a||feq a b)=fle b a:=by
 unfold flt feq fle
 cases isNaN a <;> cases isNaN b <;> simp
 rw [←Bool.decide_or]
 apply decide_eq_decide.2
 omega
theorem feq_self (a:Nat):feq a a=!isNaN a:=by unfold feq;simp

theorem feq_kk (a b:Key):feq a.bits b.bits=decide (a.v=b.v):=by simp [feq,Key.bits_nan,Key.kof_bits]
theorem flt_kk (a b:Key):flt a.bits b.bits=decide (a.v<b.v):=by simp [flt,Key.bits_nan,Key.kof_bits]
theorem fle_kk (a b:Key):fle a.bits b.bits=decide (a.v≤b.v):=by simp [fle,Key.bits_nan,Key.kof_bits]

def knext (k:Key):Key:=if h:k.v=(inf:Int) then k else ⟨k.v+1,by have:=k.lo;omega,by have:=k.hi;omega⟩
def kprev (k:Key):Key:=if h:k.v = -(inf:Int) then k else ⟨k.v-1,by have:=k.lo;omega,by have:=k.hi;omega⟩
theorem knext_v {k:Key} (h:k.v≠(inf:Int)):(knext k).v=k.v+1:=by simp [knext,h]
theorem kprev_v {k:Key} (h:k.v≠-(inf:Int)):(kprev k).v=k.v-1:=by simp [kprev,h]

def kzero:Key:=⟨0,by unfold inf;omega,by unfold inf;omega⟩
def ktop:Key:=⟨inf,by unfold inf;omega,by omega⟩
def kbot:Key:=⟨-(inf:Int),by omega,by unfold inf;omega⟩
def kmax:Key:=⟨9218868437227405311,by unfold inf;omega,by unfold inf;omega⟩
theorem kzero_bits:kzero.bits=0:=by simp [kzero,Key.bits]
theorem ktop_bits:ktop.bits=inf:=by simp [ktop,Key.bits]
theorem kbot_bits:kbot.bits=top+inf:=by simp [kbot,Key.bits,inf]
theorem kmax_bits:kmax.bits=9218868437227405311:=by simp [kmax,Key.bits]

theorem flt_max (k:Key):flt 9218868437227405311 k.bits=decide ((inf:Int)≤k.v):=by
 rw [←kmax_bits,flt_kk]
 apply decide_eq_decide.2
 unfold kmax inf;simp only;omega
theorem flt_zero (k:Key):flt 0 k.bits=decide (0<k.v):=by rw [←kzero_bits,flt_kk];rfl
theorem feq_zero (k:Key):feq k.bits 0=decide (k.v=0):=by rw [←kzero_bits,feq_kk];rfl
theorem feq_top (k:Key):feq k.bits inf=decide (k.v=(inf:Int)):=by rw [←ktop_bits,feq_kk];rfl
theorem flt_top (k:Key):flt k.bits inf=decide (k.v<(inf:Int)):=by rw [←ktop_bits,flt_kk];rfl
theorem feq_bot (k:Key):feq k.bits (top+inf)=decide (k.v = -(inf:Int)):=by rw [←kbot_bits,feq_kk];rfl
theorem flt_bot (k:Key):flt k.bits (top+inf)=decide (k.v < -(inf:Int)):=by rw [←kbot_bits,flt_kk];rfl

def cbits (b:Nat):Nat:=if isNaN b then nanBits else (kof b).bits

theorem kof_zero:(kof 0).v=0:=by rw [kof_v (by simp [isNaN])];simp [fkey]
theorem cbits_zero {b:Nat} (h:feq b 0=true):cbits b=0:=by
 simp only [feq,Bool.and_eq_true,Bool.not_eq_true',decide_eq_true_eq] at h
 unfold cbits Key.bits
 rw [if_neg (by simp [h.1.1]),h.2,kof_zero]
 simp
theorem cbits_other {b:Nat} (hb:b<2 ^ 64) (hn:isNaN b=false) (h:feq b 0=false):cbits b=b:=by
 unfold cbits
 rw [if_neg (by simp [hn])]
 refine bits_kof hb hn ?_
 rintro rfl
 simp [feq,hn,kof_zero,kof_top,show isNaN 0=false by simp [isNaN]] at h
theorem cbits_key (k:Key):cbits k.bits=k.bits:=by simp [cbits,k.bits_nan,k.kof_bits]
theorem cbits_nan {b:Nat} (h:isNaN b=true):cbits b=nanBits:=by simp [cbits,h]
theorem cbits_num {b:Nat} (h:isNaN b=false):cbits b=(kof b).bits:=by simp [cbits,h]
theorem cbits_lt (b:Nat):cbits b<2 ^ 64:=by
 unfold cbits;split
 ·unfold nanBits;omega
 ·exact Key.bits_lt _

theorem cbits_top:cbits top=0:=by
 refine cbits_zero ?_
 simp [feq,kof_zero,kof_top,show isNaN 0=false by simp [isNaN],show isNaN top=false by simp [isNaN,top,inf]]

theorem xor_top {n:Nat} (h:n<top):n ^^^ top=n+top:=by
 have hj:(n ||| top)=n+top:=by
  have h2:n<2 ^ 63:=h
  have:=Nat.two_pow_add_eq_or_of_lt (i:=63) h2 1
  rw [Nat.or_comm,Nat.add_comm]
  unfold top;simpa using this.symm
 rw [←hj]
 apply Nat.eq_of_testBit_eq
 intro i
 rw [Nat.testBit_xor,Nat.testBit_or]
 by_cases hi:i=63
 ·subst hi
  rw [Nat.testBit_lt_two_pow (show n<2 ^ 63 from h)];simp
 ·have:Nat.testBit top i=false:=by
   rw [show top=2 ^ 63 from rfl,Nat.testBit_two_pow];simp;omega
  rw [this];simp

def kneg (k:Key):Key:=⟨-k.v,by have:=k.hi;omega,by have:=k.lo;omega⟩
theorem neg_key {k:Key} (h:k.v≠0):Op.negFloat .f64 k.bits=(kneg k).bits:=by
 have e:Op.negFloat .f64 k.bits=k.bits ^^^ top:=rfl
 have h1:=k.lo;have h2:=k.hi
 rw [e]
 by_cases hp:0≤k.v
 ·have hb:k.bits=k.v.toNat:=by simp [Key.bits,hp]
  have hc:(kneg k).bits=top+k.v.toNat:=by
   unfold Key.bits kneg;rw [if_neg (by simp only;omega)];simp
  rw [hb,hc,xor_top (by unfold inf top at *;omega),Nat.add_comm]
 ·have hb:k.bits=top+(-k.v).toNat:=by unfold Key.bits;rw [if_neg hp]
  have hc:(kneg k).bits=(-k.v).toNat:=by
   unfold Key.bits kneg;rw [if_pos (by simp only;omega)]
  rw [hb,hc,Nat.add_comm,←xor_top (by unfold inf top at *;omega),Nat.xor_assoc,Nat.xor_self,Nat.xor_zero]
theorem neg_zero {k:Key} (h:k.v=0):Op.negFloat .f64 k.bits=top:=by
 have e:Op.negFloat .f64 k.bits=k.bits ^^^ top:=rfl
 rw [e,show k.bits=0 by simp [Key.bits,h],Nat.zero_xor]
theorem flt_max_neg (k:Key):flt 9218868437227405311 (Op.negFloat .f64 k.bits)=decide (k.v≤-(inf:Int)):=by
 by_cases h:k.v=0
 ·rw [neg_zero h]
  rw [←kmax_bits]
  simp only [flt,kof_top,Key.kof_bits,h]
  simp [kmax,show ¬inf=0 by unfold inf;omega]
 ·rw [neg_key h,flt_max]
  apply decide_eq_decide.2
  unfold kneg;simp only;omega

def nup (k:Key):Nat:=if 0≤k.v then k.bits+1 else k.bits-1
def ndown (k:Key):Nat:=if k.v=0 then top+1 else if 0<k.v then k.bits-1 else k.bits+1

theorem nup_lt (k:Key):nup k<2 ^ 64:=by
 have h1:=k.lo;have h2:=k.hi
 unfold nup Key.bits inf top at *
 repeat' split
 all_goals omega
theorem ndown_lt (k:Key):ndown k<2 ^ 64:=by
 have h1:=k.lo;have h2:=k.hi
 unfold ndown Key.bits inf top at *
 repeat' split
 all_goals omega

theorem cbits_nup {k:Key} (h:k.v≠(inf:Int)):cbits (nup k)=(knext k).bits:=by
 by_cases h1:k.v = -1
 ·have e:nup k=top:=by
   unfold nup Key.bits top;rw [if_neg (by omega),if_neg (by omega),h1];simp
  rw [e,cbits_top]
  unfold Key.bits;rw [knext_v h,h1];simp
 ·have e:nup k=(knext k).bits:=by
   have h2:=k.hi;have h3:=k.lo
   have:=knext_v h
   unfold nup Key.bits inf top at *
   rw [this]
   repeat' split
   all_goals omega
  rw [e,cbits_key]

theorem cbits_ndown {k:Key} (h:k.v≠-(inf:Int)):cbits (ndown k)=(kprev k).bits:=by
 have e:ndown k=(kprev k).bits:=by
  have h2:=k.hi;have h3:=k.lo
  have:=kprev_v h
  unfold ndown Key.bits inf top at *
  rw [this]
  repeat' split
  all_goals omega
 rw [e,cbits_key]

end Fl
open Go.RowKit Fl

attribute [go_sem] Fl.ord_eq Fl.ord_lt Fl.ord_gt Fl.ord_ne Fl.lt_or_eq Fl.gt_or_eq Fl.feq_self Fl.feq_kk Fl.flt_kk Fl.fle_kk Fl.Key.bits_nan Fl.Key.kof_bits

theorem hid {p:Prop} (h:p):Hid p:=h
def Ret (v:Value) (w:World) (e:Ending) (w':World):Prop:=e=.returned v∧Below w.heap.size w w'

theorem bcell {W w1:World} (hb:Below W.heap.size W w1):(∀ b o,b<W.heap.size→w1.cell? ⟨b,o,none⟩=W.cell? ⟨b,o,none⟩)∧(∀ b o,b<W.heap.size→w1.frozen? ⟨b,o,none⟩=W.frozen? ⟨b,o,none⟩) :=
 ⟨fun b o h=>hb.cell (p:=⟨b,o,none⟩) h,fun b o h=>hb.frozen (p:=⟨b,o,none⟩) h⟩

theorem mQ {P:Program} {f} {args:Array Value} {w:World} {v:Value} {Ψ:Ending→World→Prop} (h:Calls P f args w (Ret v w)) {Q:World→Prop} (h2:∀ w',Q w') (h1:∀ w',Below w.heap.size w w'→Wrp (Q w')→Ψ (.returned v) w':=by
 intro w' hb hq
 have hz:=hb.size
 obtain ⟨hc,hf⟩:=bcell hb
 (try simp only [qD,qE,qF] at hc hf)
 (try simp at hz)
 (try have hy0:=yA (n:=w.heap.size) hz)
 (try have hy1:=yA (n:=w.heap.size+1) hz)
 (try have hy2:=yA (n:=w.heap.size+2) hz)
 (try have hy3:=yA (n:=w.heap.size+3) hz)
 (try have hx0:=yB (n:=w.heap.size) hz)
 (try have hx1:=yB (n:=w.heap.size+1) hz)
 (try have hx2:=yB (n:=w.heap.size+2) hz)
 (try revert hx2)
 (try revert hx1)
 (try revert hx0)
 (try revert hy3)
 (try revert hy2)
 (try revert hy1)
 (try revert hy0)
 revert hz
 revert hf
 revert hc
 revert hb
 exact hq.out):Calls P f args w Ψ:=h.mono fun e w' hr=>by obtain ⟨rfl,hb⟩:=hr;exact h1 w' hb ⟨h2 w'⟩
theorem Below.after {B C:Nat} {a b c:World} (h:Below C b c) (hc:B≤C) (k:Below B a b):Below B a c:=k.trans (h.mono hc)
theorem Below.alloc1 {B:Nat} {a w:World} (hB:B≤w.heap.size) (h:Below B a w) (o:Obj):Below B a (w.alloc o):=h.alloc hB o
theorem Below.setCell1 {B:Nat} {a w:World} {p:Addr} (hp:B≤p.block) (h:Below B a w) (u:Value):Below B a (w.setCell p u):=h.setCell hp u
theorem below_drewN' {B:Nat} {a w:World} (h:Below B a w) (n:Nat):Below B a (w.drewN n):=⟨h.os,h.tape,h.output,h.size,h.block⟩

@[simp, go_sem] theorem drewN_size' (w : World) (n : Nat) : (w.drewN n).heap.size = w.heap.size := rfl
@[go_sem] theorem drewN_cell' (w : World) (n : Nat) (a : Addr) : (w.drewN n).cell? a = w.cell? a := rfl
@[go_sem] theorem drewN_frozen' (w : World) (n : Nat) (a : Addr) : (w.drewN n).frozen? a = w.frozen? a := rfl

abbrev Rg:=Option (Key×Key)

def canonS (lo hi:Nat) (a b:Bool):Rg :=
 if isNaN lo||isNaN hi then none else
 if h:(kof lo).v+(if a then 1 else 0)≤(kof hi).v-(if b then 1 else 0) then
  some (⟨(kof lo).v+(if a then 1 else 0),by have:=(kof lo).lo;split <;> omega,by have:=(kof hi).hi;split at h <;> split at h <;> simp_all <;> omega⟩,
     ⟨(kof hi).v-(if b then 1 else 0),by have:=(kof lo).lo;split at h <;> split at h <;> simp_all <;> omega,by have:=(kof hi).hi;split <;> omega⟩)
 else none

def spv:Rg→Value
 | none=>.agg #[.float .f64 0,.float .f64 0,.bool true,.bool true]
 | some (l,h)=>.agg #[.float .f64 l.bits,.float .f64 h.bits,.bool false,.bool false]

@[go_sem] theorem spv_none : spv none = .agg #[.float .f64 0, .float .f64 0, .bool true, .bool true] := rfl
@[go_sem] theorem spv_some (l h : Key) : spv (some (l, h)) = .agg #[.float .f64 l.bits, .float .f64 h.bits, .bool false, .bool false] := rfl

def hasB:Rg→Nat→Bool
 | none,_=>false
 | some (l,h),key=>fle l.bits key && fle key h.bits

theorem canonS_some {lo hi:Nat} {a b:Bool} {l h:Key} (hn:(isNaN lo||isNaN hi)=false) (hl:l.v=(kof lo).v+(if a then 1 else 0)) (hh:h.v=(kof hi).v-(if b then 1 else 0)) (hlh:l.v≤h.v) :
  canonS lo hi a b=some (l,h):=by
 unfold canonS
 rw [if_neg (by simp [hn]),dif_pos (by omega)]
 congr 2
 ·apply Key.ext';exact hl.symm
 ·apply Key.ext';exact hh.symm
theorem canonS_none {lo hi:Nat} {a b:Bool} (h:¬(kof lo).v+(if a then 1 else 0)≤(kof hi).v-(if b then 1 else 0)):canonS lo hi a b=none:=by
 unfold canonS
 by_cases hn:(isNaN lo||isNaN hi)=true
 ·rw [if_pos hn]
 ·rw [if_neg hn,dif_neg h]

structure Ext (w0:World) where
 w:World
 b:Below w0.heap.size w0 w
@[go_sem] theorem Ext.cell {w0 : World} (x : Ext w0) {b o : Nat} (h : b < w0.heap.size) : x.w.cell? ⟨b, o, none⟩ = w0.cell? ⟨b, o, none⟩ := x.b.cell (p := ⟨b, o, none⟩) h
@[go_sem] theorem Ext.frozen {w0 : World} (x : Ext w0) {b o : Nat} (h : b < w0.heap.size) : x.w.frozen? ⟨b, o, none⟩ = w0.frozen? ⟨b, o, none⟩ := x.b.frozen (p := ⟨b, o, none⟩) h
instance {w0:World}:Nonempty (Ext w0):=⟨⟨w0,Below.refl _ _⟩⟩

theorem wp_region_ext {P:Program} {id:Nat} {Q:Exit→Act→World→Prop} {a:Act} {w:World} {l:List Oper} (hm:P.follows .mixedOrders=true) (hB:Region.lexB .any l.toArray=true)
  (h:wpQuiet P l.toArray (fun w'=>∃ x:Ext w,w'=x.w) (fun a'=>∀ w',(∃ x:Ext w,w'=x.w)→Q .normal a' w') l a):(Code.region id l.toArray true).wp P Q a w :=
 wp_region_quiet (C:=fun w'=>∃ x:Ext w,w'=x.w) hm hB ⟨⟨_,(Below.refl _ _).drew⟩,rfl⟩ (by simpa using h)

theorem Calls.ext_of {P:Program} {f:FuncId} {args:Array Value} {w0:World} {x:Ext w0} {v:Value} (h:Calls P f args x.w (Ret v x.w)) :
  Calls P f args x.w fun e w''=>e=.returned v∧∃ y:Ext w0,w''=y.w :=
 h.mono fun _ w'' ⟨he,hb⟩=>⟨he,⟨w'',x.b.trans (hb.mono x.b.size)⟩,rfl⟩
theorem Calls.ext_same {P:Program} {f:FuncId} {args:Array Value} {w0:World} {x:Ext w0} {v:Value} (h:Calls P f args x.w fun e w'=>e=.returned v∧x.w=w') :
  Calls P f args x.w fun e w''=>e=.returned v∧∃ y:Ext w0,w''=y.w :=
 h.mono fun _ _ ⟨he,hb⟩=>⟨he,x,hb.symm⟩

theorem isNaN_any (b:Nat) (w:World) :
  Calls Tryz.prog 106 #[.float .f64 b] w fun e w'=>e=.returned (.bool (isNaN b))∧w=w':=by
 go_enter Tryz.func106,Tryz.ntmps106
 go_wp2
 go_ret
 exact ⟨by simp,rfl⟩

theorem right_any (lo hi:Nat) (a b:Bool) (w:World) :
  Calls Tryz.prog 218 #[.agg #[.float .f64 lo,.float .f64 hi,.bool a,.bool b]] w (Ret (.bool (!isNaN lo && !isNaN hi)) w):=by
 go_enter Tryz.func218,Tryz.ntmps218
 go_wp2_with (go_at_call 106;(with_reducible refine (isNaN_any _ _).mono ?_);rintro e w' ⟨rfl,rfl⟩)
 all_goals (go_ret;exact ⟨by simp [*],by exact below_auto⟩)

@[go_sem] theorem run_bits (b : Nat) (w : World) : (callFunc 133 #[.float .f64 b]).run Tryz.prog w = .ok (.value (.int .u64 (b : Int))) w := by
 rw [run_callFunc_extern Tryz.func133 (by kernel_rfl) (by kernel_rfl) (by kernel_rfl) (e:=Extern.MathFloatBits.float64bits) (by kernel_rfl)]
 rfl
@[go_sem] theorem run_frombits (n : Int) (w : World) : (callFunc 204 #[.int .u64 n]).run Tryz.prog w = .ok (.value (.float .f64 n.toNat)) w := by
 rw [run_callFunc_extern Tryz.func204 (by kernel_rfl) (by kernel_rfl) (by kernel_rfl) (e:=Extern.MathFloatBits.float64frombits) (by kernel_rfl)]
 rfl

theorem nan_any (w:World) :
  Calls Tryz.prog 237 #[] w fun e w'=>e=.returned (.float .f64 nanBits)∧w=w':=by
 go_enter Tryz.func237,Tryz.ntmps237
 go_wp2
 go_ret
 exact ⟨by simp [nanBits],rfl⟩

theorem infUp_any (w:World) :
  Calls Tryz.prog 246 #[.int .i64 1] w fun e w'=>e=.returned (.float .f64 inf)∧w=w':=by
 go_enter Tryz.func246,Tryz.ntmps246
 go_wp2
 go_ret
 exact ⟨by simp [inf],rfl⟩

theorem infDown_any (w:World) :
  Calls Tryz.prog 246 #[.int .i64 (-1)] w fun e w'=>e=.returned (.float .f64 (top+inf))∧w=w':=by
 go_enter Tryz.func246,Tryz.ntmps246
 go_wp2
 go_ret
 exact ⟨by simp [inf,top],rfl⟩

@[go_sem] theorem run_store_float (w : World) (a : Addr) (m : Mode) (k : FloatKind) (b : Nat) : (store a (.float k b) m).run Tryz.prog w = stored Tryz.prog w a (.float k b) m := run_store Tryz.prog w a _ m rfl

@[go_sem] theorem fieldSp0 (x0 x1 x2 x3 : Value) (w : World) : (Instr.field 150 (.agg #[x0, x1, x2, x3]) 0).run Tryz.prog w = .ok x0 w := by kernel_rfl
@[go_sem] theorem fieldSp1 (x0 x1 x2 x3 : Value) (w : World) : (Instr.field 150 (.agg #[x0, x1, x2, x3]) 1).run Tryz.prog w = .ok x1 w := by kernel_rfl
@[go_sem] theorem fieldSp2 (x0 x1 x2 x3 : Value) (w : World) : (Instr.field 150 (.agg #[x0, x1, x2, x3]) 2).run Tryz.prog w = .ok x2 w := by kernel_rfl
@[go_sem] theorem fieldSp3 (x0 x1 x2 x3 : Value) (w : World) : (Instr.field 150 (.agg #[x0, x1, x2, x3]) 3).run Tryz.prog w = .ok x3 w := by kernel_rfl

theorem ret_float {a b:Nat} (h:a=b):Ending.returned (.float .f64 a)=.returned (.float .f64 b):=by rw [h]
theorem ret_bool {a b:Bool} (h:a=b):Ending.returned (.bool a)=.returned (.bool b):=by rw [h]
theorem ret_int {k:IntKind} {a b:Int} (h:a=b):Ending.returned (.int k a)=.returned (.int k b):=by rw [h]

theorem floCanon_any (b:Nat) (hb:b<2 ^ 64) (w:World) :
  Calls Tryz.prog 195 #[.float .f64 b] w fun e w'=>e=.returned (.float .f64 (cbits b))∧w=w':=by
 go_enter Tryz.func195,Tryz.ntmps195
 go_wp2_with (first|(go_at_call 106;(with_reducible refine (isNaN_any _ _).mono ?_);rintro e w' ⟨rfl,rfl⟩)|(go_at_call 237;(with_reducible refine (nan_any _).mono ?_);rintro e w' ⟨rfl,rfl⟩))
 ·go_ret
  exact ⟨ret_float (cbits_nan (by assumption)).symm,rfl⟩
 ·go_ret
  exact ⟨ret_float (cbits_zero (by assumption)).symm,rfl⟩
 ·go_ret
  exact ⟨ret_float (cbits_other hb (by assumption) (by assumption)).symm,rfl⟩

theorem bits_andNot_top {b:Nat} (hb:b<2 ^ 64):bits BinOp.andNot IntKind.u64 (b:Int) 9223372036854775808=((b % top:Nat):Int):=by
 have h:=u64_andNot_nat b 9223372036854775808 (by omega) (by omega)
 rw [show ((9223372036854775808:Nat):Int)=9223372036854775808 from rfl] at h
 rw [h]
 have:=Nat.and_two_pow_sub_one_eq_mod b 63
 unfold top
 rw [show (18446744073709551615-9223372036854775808:Nat)=2 ^ 63-1 from rfl,this]
theorem bits_and_top {b:Nat} (hb:b<2 ^ 64):bits BinOp.and IntKind.u64 (b:Int) 9223372036854775808=(if b<top then 0 else 9223372036854775808):=by
 have h:=u64_and_nat b 9223372036854775808 (by omega) (by omega)
 rw [show ((9223372036854775808:Nat):Int)=9223372036854775808 from rfl] at h
 rw [h]
 have:=nat_bit 63 b
 rw [show (2 ^ 63:Nat)=9223372036854775808 from rfl] at this
 rw [this]
 unfold top
 split <;> omega
theorem bits_or_top {b:Nat} (hb:b<top):bits BinOp.or IntKind.u64 (b:Int) 9223372036854775808=((b+top:Nat):Int):=by
 unfold top at *
 have h:=u64_or_nat b 9223372036854775808 (by omega) (by omega)
 rw [show ((9223372036854775808:Nat):Int)=9223372036854775808 from rfl] at h
 rw [h,Nat.or_comm,nat_join 63 9223372036854775808 b (by decide) (by omega),Nat.add_comm]

@[go_sem] theorem run_neg_float (k : FloatKind) (b : Nat) (w : World) : (Op.unary .neg (.float k b)).run Tryz.prog w = .ok (.float k (Op.negFloat k b)) w := rfl

theorem isInfUp_any (k:Key) (w:World) :
  Calls Tryz.prog 247 #[.float .f64 k.bits,.int .i64 1] w fun e w'=>e=.returned (.bool (decide ((inf:Int)≤k.v)))∧w=w':=by
 have h1:=flt_max k
 go_enter Tryz.func247,Tryz.ntmps247
 go_wp2
 go_ret
 exact ⟨rfl,rfl⟩

theorem isInfDown_any (k:Key) (w:World) :
  Calls Tryz.prog 247 #[.float .f64 k.bits,.int .i64 (-1)] w fun e w'=>e=.returned (.bool (decide (k.v≤-(inf:Int))))∧w=w':=by
 have h1:=flt_max_neg k
 go_enter Tryz.func247,Tryz.ntmps247
 go_wp2
 go_ret
 exact ⟨rfl,rfl⟩

theorem copysign_up (w:World) :
  Calls Tryz.prog 270 #[.float .f64 1,.float .f64 inf] w fun e w'=>e=.returned (.float .f64 1)∧w=w':=by
 have h1:bits BinOp.andNot IntKind.u64 1 9223372036854775808=1:=bits_andNot_top (b:=1) (by omega)
 have h2:bits BinOp.and IntKind.u64 (inf:Int) 9223372036854775808=0:=by rw [bits_and_top (b:=inf) (by unfold inf;omega),if_pos (by unfold inf top;omega)]
 have h3:bits BinOp.or IntKind.u64 1 0=1:=by kernel_rfl
 go_enter Tryz.func270,Tryz.ntmps270
 go_wp2
 go_ret
 exact ⟨rfl,rfl⟩

theorem copysign_down (w:World) :
  Calls Tryz.prog 270 #[.float .f64 1,.float .f64 (top+inf)] w fun e w'=>e=.returned (.float .f64 (top+1))∧w=w':=by
 have h1:bits BinOp.andNot IntKind.u64 1 9223372036854775808=1:=bits_andNot_top (b:=1) (by omega)
 have h2:bits BinOp.and IntKind.u64 ((top:Int)+(inf:Int)) 9223372036854775808=9223372036854775808:=by
  rw [show (top:Int)+(inf:Int)=((top+inf:Nat):Int) by omega,bits_and_top (b:=top+inf) (by unfold inf top;omega),if_neg (by unfold inf top;omega)]
 have h3:bits BinOp.or IntKind.u64 1 9223372036854775808=((1+top:Nat):Int):=bits_or_top (b:=1) (by unfold top;omega)
 go_enter Tryz.func270,Tryz.ntmps270
 go_wp2
 go_ret
 exact ⟨ret_float (by unfold top;rfl),rfl⟩

theorem wrap_up (k:Key):IntKind.u64.wrap ((k.bits:Int)+1)=((k.bits+1:Nat):Int):=by
 rw [IntKind.wrap_u64];have h1:=k.lo;have h2:=k.hi;unfold Key.bits inf top at *;split <;> omega
theorem wrap_down (k:Key) (h:k.v≠0):IntKind.u64.wrap ((k.bits:Int)-1)=((k.bits-1:Nat):Int):=by
 rw [IntKind.wrap_u64];have h1:=k.lo;have h2:=k.hi;unfold Key.bits inf top at *;split <;> omega

theorem nextafter_up (k:Key) (h:k.v≠(inf:Int)) (w:World) :
  Calls Tryz.prog 248 #[.float .f64 k.bits,.float .f64 inf] w fun e w'=>e=.returned (.float .f64 (nup k))∧w=w':=by
 have h1:isNaN inf=false:=by rw [←ktop_bits];exact Key.bits_nan _
 have h2:feq k.bits inf=false:=by rw [feq_top];simp [h]
 have h3:flt k.bits inf=true:=by rw [flt_top];have:=k.hi;simp only [decide_eq_true_eq];omega
 have h4:=flt_zero k
 have h5:=feq_zero k
 have h6:=wrap_up k
 by_cases hz:k.v=0
 ·have e:nup k=1:=by simp [nup,Key.bits,hz]
  rw [e]
  go_enter Tryz.func248,Tryz.ntmps248
  go_wp2_with (first|(go_at_call 106;(with_reducible refine (isNaN_any _ _).mono ?_);rintro e w' ⟨rfl,rfl⟩)|(go_at_call 270;(with_reducible refine (copysign_up _).mono ?_);rintro e w' ⟨rfl,rfl⟩))
  go_ret
  exact ⟨rfl,rfl⟩
 ·by_cases hp:0<k.v
  ·have e:nup k=k.bits+1:=by unfold nup;rw [if_pos (by omega)]
   rw [e]
   go_enter Tryz.func248,Tryz.ntmps248
   go_wp2_with (first|(go_at_call 106;(with_reducible refine (isNaN_any _ _).mono ?_);rintro e w' ⟨rfl,rfl⟩)|(go_at_call 270;(with_reducible refine (copysign_up _).mono ?_);rintro e w' ⟨rfl,rfl⟩))
   go_ret
   exact ⟨rfl,rfl⟩
  ·have e:nup k=k.bits-1:=by unfold nup;rw [if_neg (by omega)]
   have h8:=wrap_down k (by omega)
   rw [e]
   go_enter Tryz.func248,Tryz.ntmps248
   go_wp2_with (first|(go_at_call 106;(with_reducible refine (isNaN_any _ _).mono ?_);rintro e w' ⟨rfl,rfl⟩)|(go_at_call 270;(with_reducible refine (copysign_up _).mono ?_);rintro e w' ⟨rfl,rfl⟩))
   go_ret
   exact ⟨ret_float (by omega),rfl⟩

theorem nextafter_down (k:Key) (h:k.v≠-(inf:Int)) (w:World) :
  Calls Tryz.prog 248 #[.float .f64 k.bits,.float .f64 (top+inf)] w fun e w'=>e=.returned (.float .f64 (ndown k))∧w=w':=by
 have h1:isNaN (top+inf)=false:=by rw [←kbot_bits];exact Key.bits_nan _
 have h2:feq k.bits (top+inf)=false:=by rw [feq_bot];simp [h]
 have h3:flt (top+inf) k.bits=true:=by rw [←kbot_bits,flt_kk];have:=k.lo;rw [decide_eq_true_eq];show -(inf:Int)<k.v;omega
 have h3':flt k.bits (top+inf)=false:=by rw [flt_bot];have:=k.lo;simp;omega
 have h4:=flt_zero k
 have h5:=feq_zero k
 have h6:=wrap_up k
 by_cases hz:k.v=0
 ·have e:ndown k=top+1:=by simp [ndown,hz]
  rw [e]
  go_enter Tryz.func248,Tryz.ntmps248
  go_wp2_with (first|(go_at_call 106;(with_reducible refine (isNaN_any _ _).mono ?_);rintro e w' ⟨rfl,rfl⟩)|(go_at_call 270;(with_reducible refine (copysign_down _).mono ?_);rintro e w' ⟨rfl,rfl⟩))
  go_ret
  exact ⟨rfl,rfl⟩
 ·by_cases hp:0<k.v
  ·have e:ndown k=k.bits-1:=by unfold ndown;rw [if_neg hz,if_pos (by omega)]
   have h8:=wrap_down k (by omega)
   rw [e]
   go_enter Tryz.func248,Tryz.ntmps248
   go_wp2_with (first|(go_at_call 106;(with_reducible refine (isNaN_any _ _).mono ?_);rintro e w' ⟨rfl,rfl⟩)|(go_at_call 270;(with_reducible refine (copysign_down _).mono ?_);rintro e w' ⟨rfl,rfl⟩))
   go_ret
   exact ⟨ret_float (by omega),rfl⟩
  ·have e:ndown k=k.bits+1:=by unfold ndown;rw [if_neg hz,if_neg (by omega)]
   rw [e]
   have hp':decide (0<k.v)=false:=by simpa using hp
   go_enter Tryz.func248,Tryz.ntmps248
   go_wp2_with (first|(go_at_call 106;(with_reducible refine (isNaN_any _ _).mono ?_);rintro e w' ⟨rfl,rfl⟩)|(go_at_call 270;(with_reducible refine (copysign_down _).mono ?_);rintro e w' ⟨rfl,rfl⟩))
   go_ret
   exact ⟨rfl,rfl⟩

theorem next_any (k:Key) (w:World) :
  Calls Tryz.prog 220 #[.float .f64 k.bits] w fun e w'=>e=.returned (.float .f64 (knext k).bits)∧w=w':=by
 have hk:=k.hi
 by_cases h:k.v=(inf:Int)
 ·have e:knext k=k:=by simp [knext,h]
  have h1:decide ((inf:Int)≤k.v)=true:=by simp;omega
  rw [e]
  clear h e
  go_enter Tryz.func220,Tryz.ntmps220
  go_wp2_with (first|(go_at_call 106;(with_reducible refine (isNaN_any _ _).mono ?_);rintro e w' ⟨rfl,rfl⟩)|(go_at_call 247;(with_reducible refine (isInfUp_any _ _).mono ?_);rintro e w' ⟨rfl,rfl⟩))
  go_ret
  exact ⟨rfl,rfl⟩
 ·have h1:decide ((inf:Int)≤k.v)=false:=by simp;omega
  rw [←cbits_nup h]
  have h2:=nup_lt k
  go_enter Tryz.func220,Tryz.ntmps220
  go_wp2_with (first|(go_at_call 106;(with_reducible refine (isNaN_any _ _).mono ?_);rintro e w' ⟨rfl,rfl⟩)|(go_at_call 247;(with_reducible refine (isInfUp_any _ _).mono ?_);rintro e w' ⟨rfl,rfl⟩)|(go_at_call 246;(with_reducible refine (infUp_any _).mono ?_);rintro e w' ⟨rfl,rfl⟩)|(go_at_call 248;(with_reducible refine (nextafter_up k h _).mono ?_);rintro e w' ⟨rfl,rfl⟩)|(go_at_call 195;(with_reducible refine (floCanon_any _ h2 _).mono ?_);rintro e w' ⟨rfl,rfl⟩))
  go_ret
  exact ⟨rfl,rfl⟩

def pbits (k:Key):Nat:=if k.v = -(inf:Int) then nanBits else (kprev k).bits

theorem prev_any (k:Key) (w:World) :
  Calls Tryz.prog 221 #[.float .f64 k.bits] w fun e w'=>e=.returned (.float .f64 (pbits k))∧w=w':=by
 have hk:=k.lo
 by_cases h:k.v = -(inf:Int)
 ·have e:pbits k=nanBits:=by simp [pbits,h]
  have h1:decide (k.v≤-(inf:Int))=true:=by simp;omega
  rw [e]
  clear h e
  go_enter Tryz.func221,Tryz.ntmps221
  go_wp2_with (first|(go_at_call 106;(with_reducible refine (isNaN_any _ _).mono ?_);rintro e w' ⟨rfl,rfl⟩)|(go_at_call 247;(with_reducible refine (isInfDown_any _ _).mono ?_);rintro e w' ⟨rfl,rfl⟩)|(go_at_call 237;(with_reducible refine (nan_any _).mono ?_);rintro e w' ⟨rfl,rfl⟩))
  go_ret
  exact ⟨rfl,rfl⟩
 ·have h1:decide (k.v≤-(inf:Int))=false:=by simp;omega
  have e:pbits k=cbits (ndown k):=by rw [cbits_ndown h];simp [pbits,h]
  rw [e]
  have h2:=ndown_lt k
  clear e
  go_enter Tryz.func221,Tryz.ntmps221
  go_wp2_with (first|(go_at_call 106;(with_reducible refine (isNaN_any _ _).mono ?_);rintro e w' ⟨rfl,rfl⟩)|(go_at_call 247;(with_reducible refine (isInfDown_any _ _).mono ?_);rintro e w' ⟨rfl,rfl⟩)|(go_at_call 246;(with_reducible refine (infDown_any _).mono ?_);rintro e w' ⟨rfl,rfl⟩)|(go_at_call 248;(with_reducible refine (nextafter_down k h _).mono ?_);rintro e w' ⟨rfl,rfl⟩)|(go_at_call 195;(with_reducible refine (floCanon_any _ h2 _).mono ?_);rintro e w' ⟨rfl,rfl⟩))
  go_ret
  exact ⟨rfl,rfl⟩

def kcode (k:Key):Int:=if 0≤k.v then k.v+9223372036854775808 else k.v+9223372036854775807
def codeOf (b:Nat):Int:=if isNaN b then 0 else kcode (kof b)

theorem kcode_lt (a b:Key):(kcode a<kcode b)↔a.v<b.v:=by unfold kcode;split <;> split <;> omega
theorem kcode_eq (a b:Key):(kcode a=kcode b)↔a.v=b.v:=by unfold kcode;split <;> split <;> omega
theorem kcode_lo (a:Key):4503599627370495≤kcode a:=by have:=a.lo;unfold inf at this;unfold kcode;split <;> omega
theorem kcode_hi (a:Key):kcode a≤18442240474082181120:=by have:=a.hi;unfold inf at this;unfold kcode;split <;> omega

theorem refNan_any (b:Nat) (hb:b<2 ^ 64) (w:World) :
  Calls Tryz.prog 164 #[.float .f64 b] w fun e w'=>e=.returned (.bool (isNaN b))∧w=w':=by
 have h1:=bits_andNot_top hb
 have H:Hid (decide ((9218868437227405312:Int)<((b % top:Nat):Int))=isNaN b):=by
  show _=_
  unfold isNaN inf;apply decide_eq_decide.2;omega
 clear hb
 go_enter Tryz.func164,Tryz.ntmps164
 go_wp2
 go_ret
 exact ⟨ret_bool H.out,rfl⟩

theorem refBits_any (b:Nat) (hb:b<2 ^ 64) (w:World) :
  Calls Tryz.prog 205 #[.float .f64 b] w fun e w'=>e=.returned (.int .u64 (cbits b:Nat))∧w=w':=by
 cases hn:isNaN b
 ·by_cases hz:b=top
  ·have e:cbits b=0:=by rw [hz,cbits_top]
   have h1:((b:Int) == 9223372036854775808)=true:=by rw [hz];unfold top;rfl
   rw [e]
   clear e hz
   go_enter Tryz.func205,Tryz.ntmps205
   go_wp2_with (go_at_call 164;(with_reducible refine (refNan_any _ hb _).mono ?_);rintro e w' ⟨rfl,rfl⟩)
   go_ret
   exact ⟨rfl,rfl⟩
  ·have e:cbits b=b:=by rw [cbits_num hn,bits_kof hb hn hz]
   have h1:((b:Int) == 9223372036854775808)=false:=by rw [beq_eq_false_iff_ne];unfold top at hz;omega
   rw [e]
   clear e hz
   go_enter Tryz.func205,Tryz.ntmps205
   go_wp2_with (go_at_call 164;(with_reducible refine (refNan_any _ hb _).mono ?_);rintro e w' ⟨rfl,rfl⟩)
   go_ret
   exact ⟨rfl,rfl⟩
 ·have e:cbits b=nanBits:=cbits_nan hn
  rw [e]
  go_enter Tryz.func205,Tryz.ntmps205
  go_wp2_with (go_at_call 164;(with_reducible refine (refNan_any _ hb _).mono ?_);rintro e w' ⟨rfl,rfl⟩)
  go_ret
  exact ⟨rfl,rfl⟩

theorem refCode_any (b:Nat) (hb:b<2 ^ 64) (w:World) :
  Calls Tryz.prog 145 #[.float .f64 b] w fun e w'=>e=.returned (.int .u64 (codeOf b))∧w=w':=by
 cases hn:isNaN b
 ·have hc:codeOf b=kcode (kof b):=by simp [codeOf,hn]
  have e:cbits b=(kof b).bits:=cbits_num hn
  have h1:(((cbits b:Nat):Int) == 9221120237041090561)=false:=by
   have h1:=(kof b).lo;have h2:=(kof b).hi
   rw [e,beq_eq_false_iff_ne];unfold Key.bits inf top at *;split <;> omega
  by_cases hp:0≤(kof b).v
  ·have h2:decide ((9223372036854775808:Int)≤((cbits b:Nat):Int))=false:=by
    have h1:=(kof b).hi
    rw [e];unfold Key.bits inf at *;rw [if_pos hp,decide_eq_false_iff_not];omega
   have h3:IntKind.u64.wrap (((cbits b:Nat):Int)+9223372036854775808)=codeOf b:=by
    have h1:=(kof b).hi
    rw [hc,e,IntKind.wrap_u64];unfold kcode Key.bits inf at *;rw [if_pos hp,if_pos hp];omega
   clear hc e hp
   go_enter Tryz.func145,Tryz.ntmps145
   go_wp2_with (go_at_call 205;(with_reducible refine (refBits_any _ hb _).mono ?_);rintro e w' ⟨rfl,rfl⟩)
   go_ret
   exact ⟨rfl,rfl⟩
  ·have h2:decide ((9223372036854775808:Int)≤((cbits b:Nat):Int))=true:=by
    rw [e];unfold Key.bits top;rw [if_neg hp,decide_eq_true_eq];omega
   have h3:IntKind.u64.wrap (18446744073709551615-((cbits b:Nat):Int))=codeOf b:=by
    have h1:=(kof b).lo
    rw [hc,e,IntKind.wrap_u64];unfold kcode Key.bits inf top at *;rw [if_neg hp,if_neg hp];omega
   clear hc e hp
   go_enter Tryz.func145,Tryz.ntmps145
   go_wp2_with (go_at_call 205;(with_reducible refine (refBits_any _ hb _).mono ?_);rintro e w' ⟨rfl,rfl⟩)
   go_ret
   exact ⟨rfl,rfl⟩
 ·have hc:codeOf b=0:=by simp [codeOf,hn]
  have h1:(((cbits b:Nat):Int) == 9221120237041090561)=true:=by rw [cbits_nan hn];unfold nanBits;rfl
  rw [hc]
  clear hc
  go_enter Tryz.func145,Tryz.ntmps145
  go_wp2_with (go_at_call 205;(with_reducible refine (refBits_any _ hb _).mono ?_);rintro e w' ⟨rfl,rfl⟩)
  go_ret
  exact ⟨rfl,rfl⟩

end Go.Proofs.YtdeeoddacnealaaGreat