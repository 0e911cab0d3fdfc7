/- Several texts as one: DA1 DA2 DA3 DE DC0 DB2. -/
import Derived.Test.YtdeeoddacnealaaGreatQ0
import Derived.Test.YtdeeoddacnealaaGreatChecked
import Derived.Test.YtdeeoddacnealaaGreatMFL
import Derived.WalkKit
import Derived.WalkLawsBesides
import Derived.WalkSpells
import Derived.Deep.QuietTactic
import Derived.BigQuiet
import Derived.Test.YtdeeoddacnealaaGreatMA
set_option linter.unusedVariables false
namespace Go.Proofs.YtdeeoddacnealaaGreat.D

structure Below (B:Nat) (w w':World):Prop extends Go.RowKit.Below B w w' where
 drawn:w.drawn≤w'.drawn
theorem Below.refl (B:Nat) (w:World):Below B w w:=⟨Go.RowKit.Below.refl B w,Nat.le_refl _⟩
theorem Below.trans {B:Nat} {a b c:World} (h:Below B a b) (k:Below B b c):Below B a c:=⟨h.toBelow.trans k.toBelow,Nat.le_trans h.drawn k.drawn⟩
theorem Below.mono {B B':Nat} {w w':World} (h:Below B w w') (hB:B'≤B):Below B' w w':=⟨h.toBelow.mono hB,h.drawn⟩
theorem Below.drew {B:Nat} {a w:World} (h:Below B a w):Below B a w.drew:=⟨h.toBelow.drew,Nat.le_succ_of_le h.drawn⟩
theorem Below.alloc {B:Nat} {a w:World} (h:Below B a w) (hB:B≤w.heap.size) (o:Obj):Below B a (w.alloc o):=⟨h.toBelow.alloc hB o,h.drawn⟩
theorem Below.setCell {B:Nat} {a w:World} (h:Below B a w) {p:Addr} (hp:B≤p.block) (u:Value):Below B a (w.setCell p u):=⟨h.toBelow.setCell hp u,h.drawn⟩
theorem Below.cell {B:Nat} {w w':World} (h:Below B w w') {p:Addr} (hp:p.block<B):w'.cell? p=w.cell? p:=h.toBelow.cell hp
theorem Below.frozen {B:Nat} {w w':World} (h:Below B w w') {p:Addr} (hp:p.block<B):w'.frozen? p=w.frozen? p:=h.toBelow.frozen hp
open Go.RowKit Fl

attribute [go_sem] Fl.ord_eq Fl.ord_lt Fl.ord_gt Fl.ord_ne Fl.lt_or_eq Fl.gt_or_eq Fl.feq_self Fl.feq_kk Fl.flt_kk Fl.fle_kk Fl.Key.bits_nan Fl.Key.kof_bits

def Ret (v:Value) (w:World) (e:Ending) (w':World):Prop:=e=.returned v∧Below w.heap.size w w'

theorem bcell {W w1:World} (hb:Below W.heap.size W w1):(∀ b o,b<W.heap.size→w1.cell? ⟨b,o,none⟩=W.cell? ⟨b,o,none⟩)∧(∀ b o,b<W.heap.size→w1.frozen? ⟨b,o,none⟩=W.frozen? ⟨b,o,none⟩) :=
 ⟨fun b o h=>hb.cell (p:=⟨b,o,none⟩) h,fun b o h=>hb.frozen (p:=⟨b,o,none⟩) h⟩

theorem mQ {P:Program} {f} {args:Array Value} {w:World} {v:Value} {Ψ:Ending→World→Prop} (h:Calls P f args w (Ret v w)) {Q:World→Prop} (h2:∀ w',Q w') (h1:∀ w',Below w.heap.size w w'→Wrp (Q w')→Ψ (.returned v) w':=by
 intro w' hb hq
 have hz:=hb.size
 obtain ⟨hc,hf⟩:=bcell hb
 (try simp only [qD,qE,qF] at hc hf)
 (try simp at hz)
 (try have hy0:=yA (n:=w.heap.size) hz)
 (try have hy1:=yA (n:=w.heap.size+1) hz)
 (try have hy2:=yA (n:=w.heap.size+2) hz)
 (try have hy3:=yA (n:=w.heap.size+3) hz)
 (try have hx0:=yB (n:=w.heap.size) hz)
 (try have hx1:=yB (n:=w.heap.size+1) hz)
 (try have hx2:=yB (n:=w.heap.size+2) hz)
 (try revert hx2)
 (try revert hx1)
 (try revert hx0)
 (try revert hy3)
 (try revert hy2)
 (try revert hy1)
 (try revert hy0)
 revert hz
 revert hf
 revert hc
 revert hb
 exact hq.out):Calls P f args w Ψ:=h.mono fun e w' hr=>by obtain ⟨rfl,hb⟩:=hr;exact h1 w' hb ⟨h2 w'⟩
theorem Below.after {B C:Nat} {a b c:World} (h:Below C b c) (hc:B≤C) (k:Below B a b):Below B a c:=k.trans (h.mono hc)
theorem Below.alloc1 {B:Nat} {a w:World} (hB:B≤w.heap.size) (h:Below B a w) (o:Obj):Below B a (w.alloc o):=h.alloc hB o
theorem Below.setCell1 {B:Nat} {a w:World} {p:Addr} (hp:B≤p.block) (h:Below B a w) (u:Value):Below B a (w.setCell p u):=h.setCell hp u
theorem below_drewN' {B:Nat} {a w:World} (h:Below B a w) (n:Nat):Below B a (w.drewN n):=⟨⟨h.os,h.tape,h.output,h.size,h.block⟩,Nat.le_trans h.drawn (Nat.le_add_right _ _)⟩

@[simp, go_sem] theorem drewN_size' (w : World) (n : Nat) : (w.drewN n).heap.size = w.heap.size := rfl
@[go_sem] theorem drewN_cell' (w : World) (n : Nat) (a : Addr) : (w.drewN n).cell? a = w.cell? a := rfl
@[go_sem] theorem drewN_frozen' (w : World) (n : Nat) (a : Addr) : (w.drewN n).frozen? a = w.frozen? a := rfl

abbrev Rg:=Option (Key×Key)

def canonS (lo hi:Nat) (a b:Bool):Rg :=
 if isNaN lo||isNaN hi then none else
 if h:(kof lo).v+(if a then 1 else 0)≤(kof hi).v-(if b then 1 else 0) then
  some (⟨(kof lo).v+(if a then 1 else 0),by have:=(kof lo).lo;split <;> omega,by have:=(kof hi).hi;split at h <;> split at h <;> simp_all <;> omega⟩,
     ⟨(kof hi).v-(if b then 1 else 0),by have:=(kof lo).lo;split at h <;> split at h <;> simp_all <;> omega,by have:=(kof hi).hi;split <;> omega⟩)
 else none

def spv:Rg→Value
 | none=>.agg #[.float .f64 0,.float .f64 0,.bool true,.bool true]
 | some (l,h)=>.agg #[.float .f64 l.bits,.float .f64 h.bits,.bool false,.bool false]

@[go_sem] theorem spv_none : spv none = .agg #[.float .f64 0, .float .f64 0, .bool true, .bool true] := rfl
@[go_sem] theorem spv_some (l h : Key) : spv (some (l, h)) = .agg #[.float .f64 l.bits, .float .f64 h.bits, .bool false, .bool false] := rfl

structure Ext (w0:World) where
 w:World
 b:Below w0.heap.size w0 w
@[go_sem] theorem Ext.cell {w0 : World} (x : Ext w0) {b o : Nat} (h : b < w0.heap.size) : x.w.cell? ⟨b, o, none⟩ = w0.cell? ⟨b, o, none⟩ := x.b.cell (p := ⟨b, o, none⟩) h
@[go_sem] theorem Ext.frozen {w0 : World} (x : Ext w0) {b o : Nat} (h : b < w0.heap.size) : x.w.frozen? ⟨b, o, none⟩ = w0.frozen? ⟨b, o, none⟩ := x.b.frozen (p := ⟨b, o, none⟩) h
instance {w0:World}:Nonempty (Ext w0):=⟨⟨w0,Below.refl _ _⟩⟩

theorem Calls.ext_of {P:Program} {f:FuncId} {args:Array Value} {w0:World} {x:Ext w0} {v:Value} (h:Calls P f args x.w (Ret v x.w)) :
  Calls P f args x.w fun e w''=>e=.returned v∧∃ y:Ext w0,w''=y.w :=
 h.mono fun _ w'' ⟨he,hb⟩=>⟨he,⟨w'',x.b.trans (hb.mono x.b.size)⟩,rfl⟩
theorem Calls.ext_same {P:Program} {f:FuncId} {args:Array Value} {w0:World} {x:Ext w0} {v:Value} (h:Calls P f args x.w fun e w'=>e=.returned v∧x.w=w') :
  Calls P f args x.w fun e w''=>e=.returned v∧∃ y:Ext w0,w''=y.w :=
 h.mono fun _ _ ⟨he,hb⟩=>⟨he,x,hb.symm⟩

theorem isNaN_any (b:Nat) (w:World) :
  Calls Tryz.prog 106 #[.float .f64 b] w fun e w'=>e=.returned (.bool (isNaN b))∧w=w':=by
 go_enter Tryz.func106,Tryz.ntmps106
 go_wp2
 go_ret
 exact ⟨by simp,rfl⟩

theorem right_any (lo hi:Nat) (a b:Bool) (w:World) :
  Calls Tryz.prog 218 #[.agg #[.float .f64 lo,.float .f64 hi,.bool a,.bool b]] w (Ret (.bool (!isNaN lo && !isNaN hi)) w):=by
 go_enter Tryz.func218,Tryz.ntmps218
 go_wp2_with (go_at_call 106;(with_reducible refine (isNaN_any _ _).mono ?_);rintro e w' ⟨rfl,rfl⟩)
 all_goals (go_ret;exact ⟨by simp [*],by exact below_auto⟩)

@[go_sem] theorem run_bits (b : Nat) (w : World) : (callFunc 133 #[.float .f64 b]).run Tryz.prog w = .ok (.value (.int .u64 (b : Int))) w := by
 rw [run_callFunc_extern Tryz.func133 (by kernel_rfl) (by kernel_rfl) (by kernel_rfl) (e:=Extern.MathFloatBits.float64bits) (by kernel_rfl)]
 rfl
@[go_sem] theorem run_frombits (n : Int) (w : World) : (callFunc 204 #[.int .u64 n]).run Tryz.prog w = .ok (.value (.float .f64 n.toNat)) w := by
 rw [run_callFunc_extern Tryz.func204 (by kernel_rfl) (by kernel_rfl) (by kernel_rfl) (e:=Extern.MathFloatBits.float64frombits) (by kernel_rfl)]
 rfl

theorem nan_any (w:World) :
  Calls Tryz.prog 237 #[] w fun e w'=>e=.returned (.float .f64 nanBits)∧w=w':=by
 go_enter Tryz.func237,Tryz.ntmps237
 go_wp2
 go_ret
 exact ⟨by simp [nanBits],rfl⟩

theorem infUp_any (w:World) :
  Calls Tryz.prog 246 #[.int .i64 1] w fun e w'=>e=.returned (.float .f64 inf)∧w=w':=by
 go_enter Tryz.func246,Tryz.ntmps246
 go_wp2
 go_ret
 exact ⟨by simp [inf],rfl⟩

theorem infDown_any (w:World) :
  Calls Tryz.prog 246 #[.int .i64 (-1)] w fun e w'=>e=.returned (.float .f64 (top+inf))∧w=w':=by
 go_enter Tryz.func246,Tryz.ntmps246
 go_wp2
 go_ret
 exact ⟨by simp [inf,top],rfl⟩

@[go_sem] theorem run_store_float (w : World) (a : Addr) (m : Mode) (k : FloatKind) (b : Nat) : (store a (.float k b) m).run Tryz.prog w = stored Tryz.prog w a (.float k b) m := run_store Tryz.prog w a _ m rfl

@[go_sem] theorem fieldSp0 (x0 x1 x2 x3 : Value) (w : World) : (Instr.field 150 (.agg #[x0, x1, x2, x3]) 0).run Tryz.prog w = .ok x0 w := by kernel_rfl
@[go_sem] theorem fieldSp1 (x0 x1 x2 x3 : Value) (w : World) : (Instr.field 150 (.agg #[x0, x1, x2, x3]) 1).run Tryz.prog w = .ok x1 w := by kernel_rfl
@[go_sem] theorem fieldSp2 (x0 x1 x2 x3 : Value) (w : World) : (Instr.field 150 (.agg #[x0, x1, x2, x3]) 2).run Tryz.prog w = .ok x2 w := by kernel_rfl
@[go_sem] theorem fieldSp3 (x0 x1 x2 x3 : Value) (w : World) : (Instr.field 150 (.agg #[x0, x1, x2, x3]) 3).run Tryz.prog w = .ok x3 w := by kernel_rfl

theorem ret_float {a b:Nat} (h:a=b):Ending.returned (.float .f64 a)=.returned (.float .f64 b):=by rw [h]
theorem ret_int {k:IntKind} {a b:Int} (h:a=b):Ending.returned (.int k a)=.returned (.int k b):=by rw [h]

theorem floCanon_any (b:Nat) (hb:b<2 ^ 64) (w:World) :
  Calls Tryz.prog 195 #[.float .f64 b] w fun e w'=>e=.returned (.float .f64 (cbits b))∧w=w':=by
 go_enter Tryz.func195,Tryz.ntmps195
 go_wp2_with (first|(go_at_call 106;(with_reducible refine (isNaN_any _ _).mono ?_);rintro e w' ⟨rfl,rfl⟩)|(go_at_call 237;(with_reducible refine (nan_any _).mono ?_);rintro e w' ⟨rfl,rfl⟩))
 ·go_ret
  exact ⟨ret_float (cbits_nan (by assumption)).symm,rfl⟩
 ·go_ret
  exact ⟨ret_float (cbits_zero (by assumption)).symm,rfl⟩
 ·go_ret
  exact ⟨ret_float (cbits_other hb (by assumption) (by assumption)).symm,rfl⟩

theorem bits_andNot_top {b:Nat} (hb:b<2 ^ 64):bits BinOp.andNot IntKind.u64 (b:Int) 9223372036854775808=((b % top:Nat):Int):=by
 have h:=u64_andNot_nat b 9223372036854775808 (by omega) (by omega)
 rw [show ((9223372036854775808:Nat):Int)=9223372036854775808 from rfl] at h
 rw [h]
 have:=Nat.and_two_pow_sub_one_eq_mod b 63
 unfold top
 rw [show (18446744073709551615-9223372036854775808:Nat)=2 ^ 63-1 from rfl,this]
theorem bits_and_top {b:Nat} (hb:b<2 ^ 64):bits BinOp.and IntKind.u64 (b:Int) 9223372036854775808=(if b<top then 0 else 9223372036854775808):=by
 have h:=u64_and_nat b 9223372036854775808 (by omega) (by omega)
 rw [show ((9223372036854775808:Nat):Int)=9223372036854775808 from rfl] at h
 rw [h]
 have:=nat_bit 63 b
 rw [show (2 ^ 63:Nat)=9223372036854775808 from rfl] at this
 rw [this]
 unfold top
 split <;> omega
theorem bits_or_top {b:Nat} (hb:b<top):bits BinOp.or IntKind.u64 (b:Int) 9223372036854775808=((b+top:Nat):Int):=by
 unfold top at *
 have h:=u64_or_nat b 9223372036854775808 (by omega) (by omega)
 rw [show ((9223372036854775808:Nat):Int)=9223372036854775808 from rfl] at h
 rw [h,Nat.or_comm,nat_join 63 9223372036854775808 b (by decide) (by omega),Nat.add_comm]

@[go_sem] theorem run_neg_float (k : FloatKind) (b : Nat) (w : World) : (Op.unary .neg (.float k b)).run Tryz.prog w = .ok (.float k (Op.negFloat k b)) w := rfl

theorem isInfUp_any (k:Key) (w:World) :
  Calls Tryz.prog 247 #[.float .f64 k.bits,.int .i64 1] w fun e w'=>e=.returned (.bool (decide ((inf:Int)≤k.v)))∧w=w':=by
 have h1:=flt_max k
 go_enter Tryz.func247,Tryz.ntmps247
 go_wp2
 go_ret
 exact ⟨rfl,rfl⟩

theorem isInfDown_any (k:Key) (w:World) :
  Calls Tryz.prog 247 #[.float .f64 k.bits,.int .i64 (-1)] w fun e w'=>e=.returned (.bool (decide (k.v≤-(inf:Int))))∧w=w':=by
 have h1:=flt_max_neg k
 go_enter Tryz.func247,Tryz.ntmps247
 go_wp2
 go_ret
 exact ⟨rfl,rfl⟩

theorem copysign_up (w:World) :
  Calls Tryz.prog 270 #[.float .f64 1,.float .f64 inf] w fun e w'=>e=.returned (.float .f64 1)∧w=w':=by
 have h1:bits BinOp.andNot IntKind.u64 1 9223372036854775808=1:=bits_andNot_top (b:=1) (by omega)
 have h2:bits BinOp.and IntKind.u64 (inf:Int) 9223372036854775808=0:=by rw [bits_and_top (b:=inf) (by unfold inf;omega),if_pos (by unfold inf top;omega)]
 have h3:bits BinOp.or IntKind.u64 1 0=1:=by kernel_rfl
 go_enter Tryz.func270,Tryz.ntmps270
 go_wp2
 go_ret
 exact ⟨rfl,rfl⟩

theorem copysign_down (w:World) :
  Calls Tryz.prog 270 #[.float .f64 1,.float .f64 (top+inf)] w fun e w'=>e=.returned (.float .f64 (top+1))∧w=w':=by
 have h1:bits BinOp.andNot IntKind.u64 1 9223372036854775808=1:=bits_andNot_top (b:=1) (by omega)
 have h2:bits BinOp.and IntKind.u64 ((top:Int)+(inf:Int)) 9223372036854775808=9223372036854775808:=by
  rw [show (top:Int)+(inf:Int)=((top+inf:Nat):Int) by omega,bits_and_top (b:=top+inf) (by unfold inf top;omega),if_neg (by unfold inf top;omega)]
 have h3:bits BinOp.or IntKind.u64 1 9223372036854775808=((1+top:Nat):Int):=bits_or_top (b:=1) (by unfold top;omega)
 go_enter Tryz.func270,Tryz.ntmps270
 go_wp2
 go_ret
 exact ⟨ret_float (by unfold top;rfl),rfl⟩

theorem wrap_up (k:Key):IntKind.u64.wrap ((k.bits:Int)+1)=((k.bits+1:Nat):Int):=by
 rw [IntKind.wrap_u64];have h1:=k.lo;have h2:=k.hi;unfold Key.bits inf top at *;split <;> omega
theorem wrap_down (k:Key) (h:k.v≠0):IntKind.u64.wrap ((k.bits:Int)-1)=((k.bits-1:Nat):Int):=by
 rw [IntKind.wrap_u64];have h1:=k.lo;have h2:=k.hi;unfold Key.bits inf top at *;split <;> omega

theorem nextafter_up (k:Key) (h:k.v≠(inf:Int)) (w:World) :
  Calls Tryz.prog 248 #[.float .f64 k.bits,.float .f64 inf] w fun e w'=>e=.returned (.float .f64 (nup k))∧w=w':=by
 have h1:isNaN inf=false:=by rw [←ktop_bits];exact Key.bits_nan _
 have h2:feq k.bits inf=false:=by rw [feq_top];simp [h]
 have h3:flt k.bits inf=true:=by rw [flt_top];have:=k.hi;simp only [decide_eq_true_eq];omega
 have h4:=flt_zero k
 have h5:=feq_zero k
 have h6:=wrap_up k
 by_cases hz:k.v=0
 ·have e:nup k=1:=by simp [nup,Key.bits,hz]
  rw [e]
  go_enter Tryz.func248,Tryz.ntmps248
  go_wp2_with (first|(go_at_call 106;(with_reducible refine (isNaN_any _ _).mono ?_);rintro e w' ⟨rfl,rfl⟩)|(go_at_call 270;(with_reducible refine (copysign_up _).mono ?_);rintro e w' ⟨rfl,rfl⟩))
  go_ret
  exact ⟨rfl,rfl⟩
 ·by_cases hp:0<k.v
  ·have e:nup k=k.bits+1:=by unfold nup;rw [if_pos (by omega)]
   rw [e]
   go_enter Tryz.func248,Tryz.ntmps248
   go_wp2_with (first|(go_at_call 106;(with_reducible refine (isNaN_any _ _).mono ?_);rintro e w' ⟨rfl,rfl⟩)|(go_at_call 270;(with_reducible refine (copysign_up _).mono ?_);rintro e w' ⟨rfl,rfl⟩))
   go_ret
   exact ⟨rfl,rfl⟩
  ·have e:nup k=k.bits-1:=by unfold nup;rw [if_neg (by omega)]
   have h8:=wrap_down k (by omega)
   rw [e]
   go_enter Tryz.func248,Tryz.ntmps248
   go_wp2_with (first|(go_at_call 106;(with_reducible refine (isNaN_any _ _).mono ?_);rintro e w' ⟨rfl,rfl⟩)|(go_at_call 270;(with_reducible refine (copysign_up _).mono ?_);rintro e w' ⟨rfl,rfl⟩))
   go_ret
   exact ⟨ret_float (by omega),rfl⟩

theorem nextafter_down (k:Key) (h:k.v≠-(inf:Int)) (w:World) :
  Calls Tryz.prog 248 #[.float .f64 k.bits,.float .f64 (top+inf)] w fun e w'=>e=.returned (.float .f64 (ndown k))∧w=w':=by
 have h1:isNaN (top+inf)=false:=by rw [←kbot_bits];exact Key.bits_nan _
 have h2:feq k.bits (top+inf)=false:=by rw [feq_bot];simp [h]
 have h3:flt (top+inf) k.bits=true:=by rw [←kbot_bits,flt_kk];have:=k.lo;rw [decide_eq_true_eq];show -(inf:Int)<k.v;omega
 have h3':flt k.bits (top+inf)=false:=by rw [flt_bot];have:=k.lo;simp;omega
 have h4:=flt_zero k
 have h5:=feq_zero k
 have h6:=wrap_up k
 by_cases hz:k.v=0
 ·have e:ndown k=top+1:=by simp [ndown,hz]
  rw [e]
  go_enter Tryz.func248,Tryz.ntmps248
  go_wp2_with (first|(go_at_call 106;(with_reducible refine (isNaN_any _ _).mono ?_);rintro e w' ⟨rfl,rfl⟩)|(go_at_call 270;(with_reducible refine (copysign_down _).mono ?_);rintro e w' ⟨rfl,rfl⟩))
  go_ret
  exact ⟨rfl,rfl⟩
 ·by_cases hp:0<k.v
  ·have e:ndown k=k.bits-1:=by unfold ndown;rw [if_neg hz,if_pos (by omega)]
   have h8:=wrap_down k (by omega)
   rw [e]
   go_enter Tryz.func248,Tryz.ntmps248
   go_wp2_with (first|(go_at_call 106;(with_reducible refine (isNaN_any _ _).mono ?_);rintro e w' ⟨rfl,rfl⟩)|(go_at_call 270;(with_reducible refine (copysign_down _).mono ?_);rintro e w' ⟨rfl,rfl⟩))
   go_ret
   exact ⟨ret_float (by omega),rfl⟩
  ·have e:ndown k=k.bits+1:=by unfold ndown;rw [if_neg hz,if_neg (by omega)]
   rw [e]
   have hp':decide (0<k.v)=false:=by simpa using hp
   go_enter Tryz.func248,Tryz.ntmps248
   go_wp2_with (first|(go_at_call 106;(with_reducible refine (isNaN_any _ _).mono ?_);rintro e w' ⟨rfl,rfl⟩)|(go_at_call 270;(with_reducible refine (copysign_down _).mono ?_);rintro e w' ⟨rfl,rfl⟩))
   go_ret
   exact ⟨rfl,rfl⟩

theorem next_any (k:Key) (w:World) :
  Calls Tryz.prog 220 #[.float .f64 k.bits] w fun e w'=>e=.returned (.float .f64 (knext k).bits)∧w=w':=by
 have hk:=k.hi
 by_cases h:k.v=(inf:Int)
 ·have e:knext k=k:=by simp [knext,h]
  have h1:decide ((inf:Int)≤k.v)=true:=by simp;omega
  rw [e]
  clear h e
  go_enter Tryz.func220,Tryz.ntmps220
  go_wp2_with (first|(go_at_call 106;(with_reducible refine (isNaN_any _ _).mono ?_);rintro e w' ⟨rfl,rfl⟩)|(go_at_call 247;(with_reducible refine (isInfUp_any _ _).mono ?_);rintro e w' ⟨rfl,rfl⟩))
  go_ret
  exact ⟨rfl,rfl⟩
 ·have h1:decide ((inf:Int)≤k.v)=false:=by simp;omega
  rw [←cbits_nup h]
  have h2:=nup_lt k
  go_enter Tryz.func220,Tryz.ntmps220
  go_wp2_with (first|(go_at_call 106;(with_reducible refine (isNaN_any _ _).mono ?_);rintro e w' ⟨rfl,rfl⟩)|(go_at_call 247;(with_reducible refine (isInfUp_any _ _).mono ?_);rintro e w' ⟨rfl,rfl⟩)|(go_at_call 246;(with_reducible refine (infUp_any _).mono ?_);rintro e w' ⟨rfl,rfl⟩)|(go_at_call 248;(with_reducible refine (nextafter_up k h _).mono ?_);rintro e w' ⟨rfl,rfl⟩)|(go_at_call 195;(with_reducible refine (floCanon_any _ h2 _).mono ?_);rintro e w' ⟨rfl,rfl⟩))
  go_ret
  exact ⟨rfl,rfl⟩

def pbits (k:Key):Nat:=if k.v = -(inf:Int) then nanBits else (kprev k).bits

theorem prev_any (k:Key) (w:World) :
  Calls Tryz.prog 221 #[.float .f64 k.bits] w fun e w'=>e=.returned (.float .f64 (pbits k))∧w=w':=by
 have hk:=k.lo
 by_cases h:k.v = -(inf:Int)
 ·have e:pbits k=nanBits:=by simp [pbits,h]
  have h1:decide (k.v≤-(inf:Int))=true:=by simp;omega
  rw [e]
  clear h e
  go_enter Tryz.func221,Tryz.ntmps221
  go_wp2_with (first|(go_at_call 106;(with_reducible refine (isNaN_any _ _).mono ?_);rintro e w' ⟨rfl,rfl⟩)|(go_at_call 247;(with_reducible refine (isInfDown_any _ _).mono ?_);rintro e w' ⟨rfl,rfl⟩)|(go_at_call 237;(with_reducible refine (nan_any _).mono ?_);rintro e w' ⟨rfl,rfl⟩))
  go_ret
  exact ⟨rfl,rfl⟩
 ·have h1:decide (k.v≤-(inf:Int))=false:=by simp;omega
  have e:pbits k=cbits (ndown k):=by rw [cbits_ndown h];simp [pbits,h]
  rw [e]
  have h2:=ndown_lt k
  clear e
  go_enter Tryz.func221,Tryz.ntmps221
  go_wp2_with (first|(go_at_call 106;(with_reducible refine (isNaN_any _ _).mono ?_);rintro e w' ⟨rfl,rfl⟩)|(go_at_call 247;(with_reducible refine (isInfDown_any _ _).mono ?_);rintro e w' ⟨rfl,rfl⟩)|(go_at_call 246;(with_reducible refine (infDown_any _).mono ?_);rintro e w' ⟨rfl,rfl⟩)|(go_at_call 248;(with_reducible refine (nextafter_down k h _).mono ?_);rintro e w' ⟨rfl,rfl⟩)|(go_at_call 195;(with_reducible refine (floCanon_any _ h2 _).mono ?_);rintro e w' ⟨rfl,rfl⟩))
  go_ret
  exact ⟨rfl,rfl⟩

theorem none_any (w:World):Calls Tryz.prog 219 #[] w (Ret (spv none) w):=by
 go_enter Tryz.func219,Tryz.ntmps219
 go_wp2
 exact bodyPost_ret (v:=spv none) (by simp [results,Tryz.results219,go_sem,spv]) rfl ⟨rfl,by exact below_auto⟩

theorem canon_gt (lo hi:Nat) (a b:Bool) (w:World) (hr:(!isNaN lo && !isNaN hi)=true) (h1:flt hi lo=true) :
  Calls Tryz.prog 181 #[.agg #[.float .f64 lo,.float .f64 hi,.bool a,.bool b]] w (Ret (spv none) w):=by
 go_enter Tryz.func181,Tryz.ntmps181
 go_wp2_with (first|(go_at_call 218;with_reducible refine mQ (right_any _ _ _ _ _) ?_;intro w1 hb1 hc1 hf1 hz1;intros)|(go_at_call 219;with_reducible refine mQ (none_any _) ?_;intro w2 hb2 hc2 hf2 hz2;intros))
 exact bodyPost_ret (v:=spv none) (by simp [results,Tryz.results181,go_sem, *]) rfl ⟨rfl,by exact below_auto⟩

theorem canon_wrong (lo hi:Nat) (a b:Bool) (w:World) (hr:(!isNaN lo && !isNaN hi)=false) :
  Calls Tryz.prog 181 #[.agg #[.float .f64 lo,.float .f64 hi,.bool a,.bool b]] w (Ret (spv none) w):=by
 go_enter Tryz.func181,Tryz.ntmps181
 go_wp2_with (first|(go_at_call 218;with_reducible refine mQ (right_any _ _ _ _ _) ?_;intro w1 hb1 hc1 hf1 hz1;intros)|(go_at_call 219;with_reducible refine mQ (none_any _) ?_;intro w2 hb2 hc2 hf2 hz2;intros))
 exact bodyPost_ret (v:=spv none) (by simp [results,Tryz.results181,go_sem, *]) rfl ⟨rfl,by exact below_auto⟩

theorem canon_eqa (lo hi:Nat) (b:Bool) (w:World) (hr:(!isNaN lo && !isNaN hi)=true) (h1:flt hi lo=false) (h2:feq lo hi=true) :
  Calls Tryz.prog 181 #[.agg #[.float .f64 lo,.float .f64 hi,.bool true,.bool b]] w (Ret (spv none) w):=by
 go_enter Tryz.func181,Tryz.ntmps181
 go_wp2_with (first|(go_at_call 218;with_reducible refine mQ (right_any _ _ _ _ _) ?_;intro w1 hb1 hc1 hf1 hz1;intros)|(go_at_call 219;with_reducible refine mQ (none_any _) ?_;intro w2 hb2 hc2 hf2 hz2;intros))
 exact bodyPost_ret (v:=spv none) (by simp [results,Tryz.results181,go_sem, *]) rfl ⟨rfl,by exact below_auto⟩

theorem canon_eqb (lo hi:Nat) (w:World) (hr:(!isNaN lo && !isNaN hi)=true) (h1:flt hi lo=false) (h2:feq lo hi=true) :
  Calls Tryz.prog 181 #[.agg #[.float .f64 lo,.float .f64 hi,.bool false,.bool true]] w (Ret (spv none) w):=by
 go_enter Tryz.func181,Tryz.ntmps181
 go_wp2_with (first|(go_at_call 218;with_reducible refine mQ (right_any _ _ _ _ _) ?_;intro w1 hb1 hc1 hf1 hz1;intros)|(go_at_call 219;with_reducible refine mQ (none_any _) ?_;intro w2 hb2 hc2 hf2 hz2;intros))
 exact bodyPost_ret (v:=spv none) (by simp [results,Tryz.results181,go_sem, *]) rfl ⟨rfl,by exact below_auto⟩

theorem canon_ff (lo hi:Nat) (kl kh:Key) (w:World) (hl:lo<2 ^ 64) (hh:hi<2 ^ 64) (hr:(!isNaN lo && !isNaN hi)=true) (h1:flt hi lo=false) (hb1:cbits lo=kl.bits) (hb2:cbits hi=kh.bits)
  (h4:decide (kh.v<kl.v)=false) :
  Calls Tryz.prog 181 #[.agg #[.float .f64 lo,.float .f64 hi,.bool false,.bool false]] w (Ret (spv (some (kl,kh))) w):=by
 cases h2:feq lo hi
 ·go_enter Tryz.func181,Tryz.ntmps181
  go_wp2_with (first|(go_at_call 218;with_reducible refine mQ (right_any _ _ _ _ _) ?_;intro w1 hb1 hc1 hf1 hz1;intros)|(go_at_call 219;with_reducible refine mQ (none_any _) ?_;intro w2 hb2 hc2 hf2 hz2;intros))
  go_quiet ((go_at_call 195;exact Calls.quiet_of_same ((floCanon_any _ (by assumption) _).mono fun _ _ ⟨hq1,hq2⟩=>⟨hq1,hq2.symm⟩)))
  (refine mZ hb1 ?_;intro hz1;intros)
  go_wp2_with (first|(go_at_call 220;(with_reducible refine (next_any _ _).mono ?_);rintro e w' ⟨rfl,rfl⟩)|(go_at_call 221;(with_reducible refine (prev_any _ _).mono ?_);rintro e w' ⟨rfl,rfl⟩)|(go_at_call 219;with_reducible refine mQ (none_any _) ?_;intro w2 hb2 hc2 hf2 hz2;intros))
  exact bodyPost_ret (v:=spv (some (kl,kh))) (by simp [results,Tryz.results181,go_sem, *]) rfl ⟨rfl,by exact below_auto⟩
 ·go_enter Tryz.func181,Tryz.ntmps181
  go_wp2_with (first|(go_at_call 218;with_reducible refine mQ (right_any _ _ _ _ _) ?_;intro w1 hb1 hc1 hf1 hz1;intros)|(go_at_call 219;with_reducible refine mQ (none_any _) ?_;intro w2 hb2 hc2 hf2 hz2;intros))
  go_quiet ((go_at_call 195;exact Calls.quiet_of_same ((floCanon_any _ (by assumption) _).mono fun _ _ ⟨hq1,hq2⟩=>⟨hq1,hq2.symm⟩)))
  (refine mZ hb1 ?_;intro hz1;intros)
  go_wp2_with (first|(go_at_call 220;(with_reducible refine (next_any _ _).mono ?_);rintro e w' ⟨rfl,rfl⟩)|(go_at_call 221;(with_reducible refine (prev_any _ _).mono ?_);rintro e w' ⟨rfl,rfl⟩)|(go_at_call 219;with_reducible refine mQ (none_any _) ?_;intro w2 hb2 hc2 hf2 hz2;intros))
  exact bodyPost_ret (v:=spv (some (kl,kh))) (by simp [results,Tryz.results181,go_sem, *]) rfl ⟨rfl,by exact below_auto⟩

theorem canon_tf (lo hi:Nat) (kl kh:Key) (w:World) (hl:lo<2 ^ 64) (hh:hi<2 ^ 64) (hr:(!isNaN lo && !isNaN hi)=true) (h1:flt hi lo=false) (h2:feq lo hi=false) (hb1:cbits lo=kl.bits) (hb2:cbits hi=kh.bits)
  (h4:decide (kh.v<(knext kl).v)=false) :
  Calls Tryz.prog 181 #[.agg #[.float .f64 lo,.float .f64 hi,.bool true,.bool false]] w (Ret (spv (some (knext kl,kh))) w):=by
 go_enter Tryz.func181,Tryz.ntmps181
 go_wp2_with (first|(go_at_call 218;with_reducible refine mQ (right_any _ _ _ _ _) ?_;intro w1 hb1 hc1 hf1 hz1;intros)|(go_at_call 219;with_reducible refine mQ (none_any _) ?_;intro w2 hb2 hc2 hf2 hz2;intros))
 go_quiet ((go_at_call 195;exact Calls.quiet_of_same ((floCanon_any _ (by assumption) _).mono fun _ _ ⟨hq1,hq2⟩=>⟨hq1,hq2.symm⟩)))
 (refine mZ hb1 ?_;intro hz1;intros)
 go_wp2_with (first|(go_at_call 220;(with_reducible refine (next_any _ _).mono ?_);rintro e w' ⟨rfl,rfl⟩)|(go_at_call 221;(with_reducible refine (prev_any _ _).mono ?_);rintro e w' ⟨rfl,rfl⟩)|(go_at_call 219;with_reducible refine mQ (none_any _) ?_;intro w2 hb2 hc2 hf2 hz2;intros))
 exact bodyPost_ret (v:=spv (some (knext kl,kh))) (by simp [results,Tryz.results181,go_sem, *]) rfl ⟨rfl,by exact below_auto⟩

theorem canon_ft (lo hi:Nat) (kl kh:Key) (w:World) (hl:lo<2 ^ 64) (hh:hi<2 ^ 64) (hr:(!isNaN lo && !isNaN hi)=true) (h1:flt hi lo=false) (h2:feq lo hi=false) (hb1:cbits lo=kl.bits) (hb2:cbits hi=kh.bits)
  (h3:pbits kh=(kprev kh).bits) (h4:decide ((kprev kh).v<kl.v)=false) :
  Calls Tryz.prog 181 #[.agg #[.float .f64 lo,.float .f64 hi,.bool false,.bool true]] w (Ret (spv (some (kl,kprev kh))) w):=by
 go_enter Tryz.func181,Tryz.ntmps181
 go_wp2_with (first|(go_at_call 218;with_reducible refine mQ (right_any _ _ _ _ _) ?_;intro w1 hb1 hc1 hf1 hz1;intros)|(go_at_call 219;with_reducible refine mQ (none_any _) ?_;intro w2 hb2 hc2 hf2 hz2;intros))
 go_quiet ((go_at_call 195;exact Calls.quiet_of_same ((floCanon_any _ (by assumption) _).mono fun _ _ ⟨hq1,hq2⟩=>⟨hq1,hq2.symm⟩)))
 (refine mZ hb1 ?_;intro hz1;intros)
 go_wp2_with (first|(go_at_call 220;(with_reducible refine (next_any _ _).mono ?_);rintro e w' ⟨rfl,rfl⟩)|(go_at_call 221;(with_reducible refine (prev_any _ _).mono ?_);rintro e w' ⟨rfl,rfl⟩)|(go_at_call 219;with_reducible refine mQ (none_any _) ?_;intro w2 hb2 hc2 hf2 hz2;intros))
 exact bodyPost_ret (v:=spv (some (kl,kprev kh))) (by simp [results,Tryz.results181,go_sem, *]) rfl ⟨rfl,by exact below_auto⟩

theorem canon_tt (lo hi:Nat) (kl kh:Key) (w:World) (hl:lo<2 ^ 64) (hh:hi<2 ^ 64) (hr:(!isNaN lo && !isNaN hi)=true) (h1:flt hi lo=false) (h2:feq lo hi=false) (hb1:cbits lo=kl.bits) (hb2:cbits hi=kh.bits)
  (h3:pbits kh=(kprev kh).bits) (h4:decide ((kprev kh).v<(knext kl).v)=false) :
  Calls Tryz.prog 181 #[.agg #[.float .f64 lo,.float .f64 hi,.bool true,.bool true]] w (Ret (spv (some (knext kl,kprev kh))) w):=by
 go_enter Tryz.func181,Tryz.ntmps181
 go_wp2_with (first|(go_at_call 218;with_reducible refine mQ (right_any _ _ _ _ _) ?_;intro w1 hb1 hc1 hf1 hz1;intros)|(go_at_call 219;with_reducible refine mQ (none_any _) ?_;intro w2 hb2 hc2 hf2 hz2;intros))
 go_quiet ((go_at_call 195;exact Calls.quiet_of_same ((floCanon_any _ (by assumption) _).mono fun _ _ ⟨hq1,hq2⟩=>⟨hq1,hq2.symm⟩)))
 (refine mZ hb1 ?_;intro hz1;intros)
 go_wp2_with (first|(go_at_call 220;(with_reducible refine (next_any _ _).mono ?_);rintro e w' ⟨rfl,rfl⟩)|(go_at_call 221;(with_reducible refine (prev_any _ _).mono ?_);rintro e w' ⟨rfl,rfl⟩)|(go_at_call 219;with_reducible refine mQ (none_any _) ?_;intro w2 hb2 hc2 hf2 hz2;intros))
 exact bodyPost_ret (v:=spv (some (knext kl,kprev kh))) (by simp [results,Tryz.results181,go_sem, *]) rfl ⟨rfl,by exact below_auto⟩

theorem canon_tn (lo hi:Nat) (kl kh:Key) (w:World) (hl:lo<2 ^ 64) (hh:hi<2 ^ 64) (hr:(!isNaN lo && !isNaN hi)=true) (h1:flt hi lo=false) (h2:feq lo hi=false) (hb1:cbits lo=kl.bits) (hb2:cbits hi=kh.bits)
  (h3:pbits kh=(kprev kh).bits) (h4:decide ((kprev kh).v<(knext kl).v)=true) :
  Calls Tryz.prog 181 #[.agg #[.float .f64 lo,.float .f64 hi,.bool true,.bool true]] w (Ret (spv none) w):=by
 go_enter Tryz.func181,Tryz.ntmps181
 go_wp2_with (first|(go_at_call 218;with_reducible refine mQ (right_any _ _ _ _ _) ?_;intro w1 hb1 hc1 hf1 hz1;intros)|(go_at_call 219;with_reducible refine mQ (none_any _) ?_;intro w2 hb2 hc2 hf2 hz2;intros))
 go_quiet ((go_at_call 195;exact Calls.quiet_of_same ((floCanon_any _ (by assumption) _).mono fun _ _ ⟨hq1,hq2⟩=>⟨hq1,hq2.symm⟩)))
 (refine mZ hb1 ?_;intro hz1;intros)
 go_wp2_with (first|(go_at_call 220;(with_reducible refine (next_any _ _).mono ?_);rintro e w' ⟨rfl,rfl⟩)|(go_at_call 221;(with_reducible refine (prev_any _ _).mono ?_);rintro e w' ⟨rfl,rfl⟩)|(go_at_call 219;with_reducible refine mQ (none_any _) ?_;intro w2 hb2 hc2 hf2 hz2;intros))
 exact bodyPost_ret (v:=spv none) (by simp [results,Tryz.results181,go_sem, *]) rfl ⟨rfl,by exact below_auto⟩

theorem canon_any (lo hi:Nat) (a b:Bool) (w:World) (hl:lo<2 ^ 64) (hh:hi<2 ^ 64) :
  Calls Tryz.prog 181 #[.agg #[.float .f64 lo,.float .f64 hi,.bool a,.bool b]] w (Ret (spv (canonS lo hi a b)) w):=by
 cases hnl:isNaN lo
 ·cases hnh:isNaN hi
  ·have hr:(!isNaN lo && !isNaN hi)=true:=by simp [hnl,hnh]
   by_cases hgt:(kof hi).v<(kof lo).v
   ·have e:canonS lo hi a b=none:=by
     unfold canonS;rw [if_neg (by simp [hnl,hnh]),dif_neg]
     cases a <;> cases b <;> simp <;> omega
    rw [e]
    exact canon_gt lo hi a b w hr (by simp [flt,hnl,hnh,hgt])
   ·have h1:flt hi lo=false:=by simp [flt,hnl,hnh,hgt]
    have hb1:cbits lo=(kof lo).bits:=cbits_num hnl
    have hb2:cbits hi=(kof hi).bits:=cbits_num hnh
    by_cases heq:(kof lo).v=(kof hi).v
    ·have h2:feq lo hi=true:=by simp [feq,hnl,hnh,heq]
     cases a
     ·cases b
      ·have e:canonS lo hi false false=some (kof lo,kof hi):=by
        unfold canonS;rw [if_neg (by simp [hnl,hnh]),dif_pos (by simp;omega)];simp
       rw [e]
       exact canon_ff lo hi _ _ w hl hh hr h1 hb1 hb2 (by simp;omega)
      ·have e:canonS lo hi false true=none:=by
        unfold canonS;rw [if_neg (by simp [hnl,hnh]),dif_neg];simp;omega
       rw [e]
       exact canon_eqb lo hi w hr h1 h2
     ·have e:canonS lo hi true b=none:=by
       unfold canonS;rw [if_neg (by simp [hnl,hnh]),dif_neg];cases b <;> simp <;> omega
      rw [e]
      exact canon_eqa lo hi b w hr h1 h2
    ·have h2:feq lo hi=false:=by simp [feq,hnl,hnh,heq]
     have n1:(kof lo).v≠(inf:Int):=by have:=(kof hi).hi;omega
     have n2:(kof hi).v≠-(inf:Int):=by have:=(kof lo).lo;omega
     have h3:pbits (kof hi)=(kprev (kof hi)).bits:=by simp [pbits,n2]
     have n3:=knext_v n1
     have n4:=kprev_v n2
     cases a
     ·cases b
      ·have e:canonS lo hi false false=some (kof lo,kof hi):=by
        unfold canonS;rw [if_neg (by simp [hnl,hnh]),dif_pos (by simp;omega)];simp
       rw [e]
       exact canon_ff lo hi _ _ w hl hh hr h1 hb1 hb2 (by simp;omega)
      ·have e:canonS lo hi false true=some (kof lo,kprev (kof hi)):=by
        unfold canonS;rw [if_neg (by simp [hnl,hnh]),dif_pos (by simp;omega)]
        simp [Key.eq_iff,n4]
       rw [e]
       exact canon_ft lo hi _ _ w hl hh hr h1 h2 hb1 hb2 h3 (by simp;omega)
     ·cases b
      ·have e:canonS lo hi true false=some (knext (kof lo),kof hi):=by
        unfold canonS;rw [if_neg (by simp [hnl,hnh]),dif_pos (by simp;omega)]
        simp [Key.eq_iff,n3]
       rw [e]
       exact canon_tf lo hi _ _ w hl hh hr h1 h2 hb1 hb2 (by simp;omega)
      ·by_cases h5:(kprev (kof hi)).v<(knext (kof lo)).v
       ·have e:canonS lo hi true true=none:=by
         unfold canonS;rw [if_neg (by simp [hnl,hnh]),dif_neg];simp;omega
        rw [e]
        exact canon_tn lo hi _ _ w hl hh hr h1 h2 hb1 hb2 h3 (by simp;omega)
       ·have e:canonS lo hi true true=some (knext (kof lo),kprev (kof hi)):=by
         unfold canonS;rw [if_neg (by simp [hnl,hnh]),dif_pos (by simp;omega)]
         simp [Key.eq_iff,n3,n4]
        rw [e]
        exact canon_tt lo hi _ _ w hl hh hr h1 h2 hb1 hb2 h3 (by simp;omega)
  ·have e:canonS lo hi a b=none:=by simp [canonS,hnh]
   rw [e]
   exact canon_wrong lo hi a b w (by simp [hnh])
 ·have e:canonS lo hi a b=none:=by simp [canonS,hnl]
  rw [e]
  exact canon_wrong lo hi a b w (by simp [hnl])

theorem canon_is (lo hi:Nat) (a b:Bool) (r:Rg) (w:World) (hl:lo<2 ^ 64) (hh:hi<2 ^ 64) (hr:Hid (canonS lo hi a b=r)) :
  Calls Tryz.prog 181 #[.agg #[.float .f64 lo,.float .f64 hi,.bool a,.bool b]] w (Ret (spv r) w):=by
 have h:=canon_any lo hi a b w hl hh
 rw [hr.out] at h
 exact h

theorem wp_region_ext_tail {P:Program} {id:Nat} {Q:Exit→Act→World→Prop} {a:Act} {w:World} {l:List Oper} (n:Nat) (hm:P.follows .mixedOrders=true) (hB:Region.lexTailB .any l.toArray n=true)
  (hH:(Region.lexB .any (l.take n).toArray && headFwd .any (l.take n) && Region.seqB .any l.toArray (l.length-n) n ((List.replicate n true++List.replicate (l.length-n) false).toArray))=true)
  (h:wpQuiet P (l.take n).toArray (fun w'=>∃ x:Ext w,w'=x.w) (fun a'=>∀ w',(∃ x:Ext w,w'=x.w)→wpList P l.toArray Q (l.drop n) a' w') (l.take n) a):(Code.region id l.toArray true).wp P Q a w :=
 wp_region_tail (C:=fun w'=>∃ x:Ext w,w'=x.w) n hm hB hH ⟨⟨_,(Below.refl _ _).drew⟩,rfl⟩ h

theorem canon_isN (lo hi:Nat) (a b:Bool) (w:World) (hl:lo<2 ^ 64) (hh:hi<2 ^ 64) (hr:Hid (canonS lo hi a b=none)) :
  Calls Tryz.prog 181 #[.agg #[.float .f64 lo,.float .f64 hi,.bool a,.bool b]] w (Ret (.agg #[.float .f64 0,.float .f64 0,.bool true,.bool true]) w):=canon_is lo hi a b none w hl hh hr
theorem canon_isS (lo hi:Nat) (a b:Bool) (l h:Key) (w:World) (hl:lo<2 ^ 64) (hh:hi<2 ^ 64) (hr:Hid (canonS lo hi a b=some (l,h))) :
  Calls Tryz.prog 181 #[.agg #[.float .f64 lo,.float .f64 hi,.bool a,.bool b]] w (Ret (.agg #[.float .f64 l.bits,.float .f64 h.bits,.bool false,.bool false]) w):=canon_is lo hi a b (some (l,h)) w hl hh hr

def cmpI (x y:Int):Int:=if x<y then -1 else if y<x then 1 else 0

theorem compare_any (x y:Int) (w:World) :
  Calls Tryz.prog 242 #[.int .u64 x,.int .u64 y] w fun e w'=>e=.returned (.int .i64 (cmpI x y))∧w=w':=by
 have h1:(x != x)=false:=by simp
 have h2:(y != y)=false:=by simp
 by_cases hlt:x<y
 ·have e:cmpI x y = -1:=by simp [cmpI,hlt]
  rw [e]
  clear e
  go_enter Tryz.func242,Tryz.ntmps242
  go_wp2
  go_ret
  exact ⟨rfl,rfl⟩
 ·by_cases hgt:y<x
  ·have e:cmpI x y=1:=by simp [cmpI,hlt,hgt]
   rw [e]
   clear e
   go_enter Tryz.func242,Tryz.ntmps242
   go_wp2
   go_ret
   exact ⟨rfl,rfl⟩
  ·have e:cmpI x y=0:=by simp [cmpI,hlt,hgt]
   rw [e]
   clear e
   go_enter Tryz.func242,Tryz.ntmps242
   go_wp2
   go_ret
   exact ⟨rfl,rfl⟩

theorem nat_xor_all {b:Nat} (hb:b<2 ^ 64):(2 ^ 64-1) ^^^ b=2 ^ 64-(b+1):=by
 apply Nat.eq_of_testBit_eq
 intro i
 rw [Nat.testBit_xor,Nat.testBit_two_pow_sub_one,Nat.testBit_two_pow_sub_succ hb]
 by_cases hi:i<64
 ·simp [hi]
 ·have:b.testBit i=false:=Nat.testBit_lt_two_pow (Nat.lt_of_lt_of_le hb (Nat.pow_le_pow_right (by omega) (by omega)))
  simp [hi,this]
theorem bits_xor_all {b:Nat} (hb:b<2 ^ 64):bits BinOp.xor IntKind.u64 IntKind.u64.max (b:Int)=((2 ^ 64-(b+1):Nat):Int):=by
 have h:=u64_xor_nat 18446744073709551615 b (by omega) (by omega)
 rw [show IntKind.u64.max=((18446744073709551615:Nat):Int) from rfl,h,←nat_xor_all hb]

theorem floCode_any (b:Nat) (hb:b<2 ^ 64) (w:World) :
  Calls Tryz.prog 140 #[.float .f64 b] w fun e w'=>e=.returned (.int .u64 (codeOf b))∧w=w':=by
 have hsg:IntKind.u64.signed=false:=rfl
 cases hn:isNaN b
 ·have e:codeOf b=kcode (kof b):=by simp [codeOf,hn]
  have e2:cbits b=(kof b).bits:=cbits_num hn
  have hk1:=(kof b).lo;have hk2:=(kof b).hi;have hk3:=(kof b).bits_lt
  by_cases hp:0≤(kof b).v
  ·have hb1:(kof b).bits<top:=by unfold Key.bits inf top at *;rw [if_pos hp];omega
   have h1:(bits BinOp.and IntKind.u64 ((kof b).bits:Int) 9223372036854775808 == 0)=true:=by rw [bits_and_top hk3,if_pos hb1];rfl
   have h2:bits BinOp.or IntKind.u64 ((kof b).bits:Int) 9223372036854775808=codeOf b:=by
    rw [bits_or_top hb1,e];unfold kcode Key.bits top;rw [if_pos hp,if_pos hp];omega
   clear hk1 hk2 hk3 hb1 e hp
   go_enter Tryz.func140,Tryz.ntmps140
   go_wp2_with (first|(go_at_call 106;(with_reducible refine (isNaN_any _ _).mono ?_);rintro e w' ⟨rfl,rfl⟩)|(go_at_call 195;(with_reducible refine (floCanon_any _ hb _).mono ?_);rintro e w' ⟨rfl,rfl⟩))
   go_ret
   exact ⟨rfl,rfl⟩
  ·have hb1:¬(kof b).bits<top:=by unfold Key.bits;rw [if_neg hp];omega
   have h1:(bits BinOp.and IntKind.u64 ((kof b).bits:Int) 9223372036854775808 == 0)=false:=by rw [bits_and_top hk3,if_neg hb1];rfl
   have h2:bits BinOp.xor IntKind.u64 IntKind.u64.max ((kof b).bits:Int)=codeOf b:=by
    rw [bits_xor_all hk3,e];unfold kcode Key.bits inf top at *;rw [if_neg hp,if_neg hp];omega
   clear hk1 hk2 hk3 hb1 e hp
   go_enter Tryz.func140,Tryz.ntmps140
   go_wp2_with (first|(go_at_call 106;(with_reducible refine (isNaN_any _ _).mono ?_);rintro e w' ⟨rfl,rfl⟩)|(go_at_call 195;(with_reducible refine (floCanon_any _ hb _).mono ?_);rintro e w' ⟨rfl,rfl⟩))
   go_ret
   exact ⟨rfl,rfl⟩
 ·have e:codeOf b=0:=by simp [codeOf,hn]
  rw [e]
  clear e
  go_enter Tryz.func140,Tryz.ntmps140
  go_wp2_with (first|(go_at_call 106;(with_reducible refine (isNaN_any _ _).mono ?_);rintro e w' ⟨rfl,rfl⟩)|(go_at_call 195;(with_reducible refine (floCanon_any _ hb _).mono ?_);rintro e w' ⟨rfl,rfl⟩))
  go_ret
  exact ⟨rfl,rfl⟩

theorem floCmp_any (x y:Nat) (hx:x<2 ^ 64) (hy:y<2 ^ 64) (w:World) :
  Calls Tryz.prog 214 #[.float .f64 x,.float .f64 y] w fun e w'=>e=.returned (.int .i64 (cmpI (codeOf x) (codeOf y)))∧w=w':=by
 go_enter Tryz.func214,Tryz.ntmps214
 go_wp2_with (first|(go_at_call 140;(with_reducible refine (floCode_any _ (by assumption) _).mono ?_);rintro e w' ⟨rfl,rfl⟩)|(go_at_call 242;(with_reducible refine (compare_any _ _ _).mono ?_);rintro e w' ⟨rfl,rfl⟩))
 go_ret
 exact ⟨rfl,rfl⟩

theorem codeOf_key (k:Key):codeOf k.bits=kcode k:=by simp [codeOf,k.bits_nan,k.kof_bits]
theorem cmp_keys (k l:Key):cmpI (codeOf k.bits) (codeOf l.bits)=cmpI k.v l.v:=by
 rw [codeOf_key,codeOf_key]
 have h1:=kcode_lt k l;have h2:=kcode_lt l k
 unfold cmpI
 by_cases h3:k.v<l.v
 ·rw [if_pos (h1.2 h3),if_pos h3]
 ·rw [if_neg (fun h=>h3 (h1.1 h)),if_neg h3]
  by_cases h4:l.v<k.v
  ·rw [if_pos (h2.2 h4),if_pos h4]
  ·rw [if_neg (fun h=>h4 (h2.1 h)),if_neg h4]

theorem floCmp_keys (k l:Key) (w:World) :
  Calls Tryz.prog 214 #[.float .f64 k.bits,.float .f64 l.bits] w fun e w'=>e=.returned (.int .i64 (cmpI k.v l.v))∧w=w':=by
 have h:=floCmp_any k.bits l.bits k.bits_lt l.bits_lt w
 rw [cmp_keys] at h
 exact h

def orI (x y:Int):Int:=if x=0 then y else x

theorem or_two (x y:Int) (b:Nat) (w:World) (h1:w.cell? ⟨b,0,none⟩=some (.int .i64 x)) (h2:w.cell? ⟨b,1,none⟩=some (.int .i64 y)) :
  Calls Tryz.prog 213 #[.slice (some ⟨b,0,none⟩) 2 2] w fun e w'=>e=.returned (.int .i64 (orI x y))∧w=w':=by
 by_cases hx:x=0
 ·have t1:(x != 0)=false:=by simp [hx]
  have e:orI x y=y:=by simp [orI,hx]
  by_cases hy:y=0
  ·have t2:(y != 0)=false:=by simp [hy]
   have H:Hid (orI x y=0):=by show _=_;rw [e,hy]
   clear e hx hy
   go_enter Tryz.func213,Tryz.ntmps213
   go_wp2_with fail
   go_loop [8] (fun i=>i=.int .i64 0∨i=.int .i64 1∨i=.int .i64 2) (fun i=>2-(intOf i).toNat)
   case atStart=>exact .inl rfl
   case round =>
    rcases hrel with rfl|rfl|rfl
    ·go_wp2
     go_round
     case rel=>exact .inr (.inl rfl)
     case measure=>simp [intOf]
    ·go_wp2
     go_round
     case rel=>exact .inr (.inr rfl)
     case measure=>simp [intOf]
    ·go_wp2
     go_ret
     exact ⟨ret_int H.out.symm,rfl⟩
  ·have t2:(y != 0)=true:=by simp [hy]
   have H:Hid (orI x y=y):=e
   clear e hx hy
   go_enter Tryz.func213,Tryz.ntmps213
   go_wp2_with fail
   go_loop [8] (fun i=>i=.int .i64 0∨i=.int .i64 1) (fun i=>2-(intOf i).toNat)
   case atStart=>exact .inl rfl
   case round =>
    rcases hrel with rfl|rfl
    ·go_wp2
     go_round
     case rel=>exact .inr rfl
     case measure=>simp [intOf]
    ·go_wp2
     go_ret
     exact ⟨ret_int H.out.symm,rfl⟩
 ·have t1:(x != 0)=true:=by simp [hx]
  have H:Hid (orI x y=x):=by show _=_;simp [orI,hx]
  clear hx
  go_enter Tryz.func213,Tryz.ntmps213
  go_wp2_with fail
  go_loop [8] (fun i=>i=.int .i64 0) (fun _=>0)
  case atStart=>rfl
  case round =>
   subst hrel
   go_wp2
   go_ret
   exact ⟨ret_int H.out.symm,rfl⟩

def cmpR:Rg→Rg→Int
 | none,none=>0
 | none,some _=>-1
 | some _,none=>1
 | some (l,h),some (l',h')=>orI (cmpI l.v l'.v) (cmpI h.v h'.v)

set_option maxRecDepth 100000 in
theorem cmp_nn (lo hi lo' hi':Nat) (a b a' b':Bool) (w:World) (hl:lo<2 ^ 64) (hh:hi<2 ^ 64) (hl':lo'<2 ^ 64) (hh':hi'<2 ^ 64) (hr:Hid (canonS lo hi a b=none)) (hr':Hid (canonS lo' hi' a' b'=none)) :
  Calls Tryz.prog 159 #[.agg #[.float .f64 lo,.float .f64 hi,.bool a,.bool b],.agg #[.float .f64 lo',.float .f64 hi',.bool a',.bool b']] w (Ret (.int .i64 0) w):=by
 go_enter Tryz.func159,Tryz.ntmps159
 go_wp2_with fail
 (refine wp_region_ext_tail 4 (by kernel_rfl) (by kernel_rfl) (by kernel_rfl) ?_;simp only [List.take_succ_cons,List.take_zero,List.drop_succ_cons,List.drop_zero];(repeat (go_big_quiet_step (first|(go_at_call 181;with_reducible exact Calls.ext_of (canon_isN _ _ _ _ _ (by assumption) (by assumption) (by assumption))))));refine mX ?_;intro w1 hb1 hc1 hf1 hz1;intros)
 (have cc1_0_0:=hc1 (w.heap.size) 0 lt_auto;have cf1_0_0:=hf1 (w.heap.size) 0 lt_auto;have cc1_0_1:=hc1 (w.heap.size) 1 lt_auto;have cf1_0_1:=hf1 (w.heap.size) 1 lt_auto;have cc1_0_2:=hc1 (w.heap.size) 2 lt_auto;have cf1_0_2:=hf1 (w.heap.size) 2 lt_auto;have cc1_0_3:=hc1 (w.heap.size) 3 lt_auto;have cf1_0_3:=hf1 (w.heap.size) 3 lt_auto;have cc1_1_0:=hc1 (w.heap.size+1) 0 lt_auto;have cf1_1_0:=hf1 (w.heap.size+1) 0 lt_auto;have cc1_1_1:=hc1 (w.heap.size+1) 1 lt_auto;have cf1_1_1:=hf1 (w.heap.size+1) 1 lt_auto;have cc1_1_2:=hc1 (w.heap.size+1) 2 lt_auto;have cf1_1_2:=hf1 (w.heap.size+1) 2 lt_auto;have cc1_1_3:=hc1 (w.heap.size+1) 3 lt_auto;have cf1_1_3:=hf1 (w.heap.size+1) 3 lt_auto;clear hc1 hf1;simp [go_sem] at cc1_0_0 cf1_0_0 cc1_0_1 cf1_0_1 cc1_0_2 cf1_0_2 cc1_0_3 cf1_0_3 cc1_1_0 cf1_1_0 cc1_1_1 cf1_1_1 cc1_1_2 cf1_1_2 cc1_1_3 cf1_1_3)
 go_wp2
 go_ret
 exact ⟨ret_int rfl,by exact below_auto⟩

set_option maxRecDepth 100000 in
theorem cmp_ns (lo hi lo' hi':Nat) (a b a' b':Bool) (w:World) (hl:lo<2 ^ 64) (hh:hi<2 ^ 64) (hl':lo'<2 ^ 64) (hh':hi'<2 ^ 64) (hr:Hid (canonS lo hi a b=none)) (l' h':Key) (hr':Hid (canonS lo' hi' a' b'=some (l',h'))) :
  Calls Tryz.prog 159 #[.agg #[.float .f64 lo,.float .f64 hi,.bool a,.bool b],.agg #[.float .f64 lo',.float .f64 hi',.bool a',.bool b']] w (Ret (.int .i64 (-1)) w):=by
 go_enter Tryz.func159,Tryz.ntmps159
 go_wp2_with fail
 (refine wp_region_ext_tail 4 (by kernel_rfl) (by kernel_rfl) (by kernel_rfl) ?_;simp only [List.take_succ_cons,List.take_zero,List.drop_succ_cons,List.drop_zero];(repeat (go_big_quiet_step (first|(go_at_call 181;with_reducible exact Calls.ext_of (canon_isN lo hi a b _ (by assumption) (by assumption) hr))|(go_at_call 181;with_reducible exact Calls.ext_of (canon_isS lo' hi' a' b' l' h' _ (by assumption) (by assumption) hr')))));refine mX ?_;intro w1 hb1 hc1 hf1 hz1;intros)
 (have cc1_0_0:=hc1 (w.heap.size) 0 lt_auto;have cf1_0_0:=hf1 (w.heap.size) 0 lt_auto;have cc1_0_1:=hc1 (w.heap.size) 1 lt_auto;have cf1_0_1:=hf1 (w.heap.size) 1 lt_auto;have cc1_0_2:=hc1 (w.heap.size) 2 lt_auto;have cf1_0_2:=hf1 (w.heap.size) 2 lt_auto;have cc1_0_3:=hc1 (w.heap.size) 3 lt_auto;have cf1_0_3:=hf1 (w.heap.size) 3 lt_auto;have cc1_1_0:=hc1 (w.heap.size+1) 0 lt_auto;have cf1_1_0:=hf1 (w.heap.size+1) 0 lt_auto;have cc1_1_1:=hc1 (w.heap.size+1) 1 lt_auto;have cf1_1_1:=hf1 (w.heap.size+1) 1 lt_auto;have cc1_1_2:=hc1 (w.heap.size+1) 2 lt_auto;have cf1_1_2:=hf1 (w.heap.size+1) 2 lt_auto;have cc1_1_3:=hc1 (w.heap.size+1) 3 lt_auto;have cf1_1_3:=hf1 (w.heap.size+1) 3 lt_auto;clear hc1 hf1;simp [go_sem] at cc1_0_0 cf1_0_0 cc1_0_1 cf1_0_1 cc1_0_2 cf1_0_2 cc1_0_3 cf1_0_3 cc1_1_0 cf1_1_0 cc1_1_1 cf1_1_1 cc1_1_2 cf1_1_2 cc1_1_3 cf1_1_3)
 go_wp2
 go_ret
 exact ⟨ret_int rfl,by exact below_auto⟩

set_option maxRecDepth 100000 in
theorem cmp_sn (lo hi lo' hi':Nat) (a b a' b':Bool) (w:World) (hl:lo<2 ^ 64) (hh:hi<2 ^ 64) (hl':lo'<2 ^ 64) (hh':hi'<2 ^ 64) (l h:Key) (hr:Hid (canonS lo hi a b=some (l,h))) (hr':Hid (canonS lo' hi' a' b'=none)) :
  Calls Tryz.prog 159 #[.agg #[.float .f64 lo,.float .f64 hi,.bool a,.bool b],.agg #[.float .f64 lo',.float .f64 hi',.bool a',.bool b']] w (Ret (.int .i64 1) w):=by
 go_enter Tryz.func159,Tryz.ntmps159
 go_wp2_with fail
 (refine wp_region_ext_tail 4 (by kernel_rfl) (by kernel_rfl) (by kernel_rfl) ?_;simp only [List.take_succ_cons,List.take_zero,List.drop_succ_cons,List.drop_zero];(repeat (go_big_quiet_step (first|(go_at_call 181;with_reducible exact Calls.ext_of (canon_isS lo hi a b l h _ (by assumption) (by assumption) hr))|(go_at_call 181;with_reducible exact Calls.ext_of (canon_isN lo' hi' a' b' _ (by assumption) (by assumption) hr')))));refine mX ?_;intro w1 hb1 hc1 hf1 hz1;intros)
 (have cc1_0_0:=hc1 (w.heap.size) 0 lt_auto;have cf1_0_0:=hf1 (w.heap.size) 0 lt_auto;have cc1_0_1:=hc1 (w.heap.size) 1 lt_auto;have cf1_0_1:=hf1 (w.heap.size) 1 lt_auto;have cc1_0_2:=hc1 (w.heap.size) 2 lt_auto;have cf1_0_2:=hf1 (w.heap.size) 2 lt_auto;have cc1_0_3:=hc1 (w.heap.size) 3 lt_auto;have cf1_0_3:=hf1 (w.heap.size) 3 lt_auto;have cc1_1_0:=hc1 (w.heap.size+1) 0 lt_auto;have cf1_1_0:=hf1 (w.heap.size+1) 0 lt_auto;have cc1_1_1:=hc1 (w.heap.size+1) 1 lt_auto;have cf1_1_1:=hf1 (w.heap.size+1) 1 lt_auto;have cc1_1_2:=hc1 (w.heap.size+1) 2 lt_auto;have cf1_1_2:=hf1 (w.heap.size+1) 2 lt_auto;have cc1_1_3:=hc1 (w.heap.size+1) 3 lt_auto;have cf1_1_3:=hf1 (w.heap.size+1) 3 lt_auto;clear hc1 hf1;simp [go_sem] at cc1_0_0 cf1_0_0 cc1_0_1 cf1_0_1 cc1_0_2 cf1_0_2 cc1_0_3 cf1_0_3 cc1_1_0 cf1_1_0 cc1_1_1 cf1_1_1 cc1_1_2 cf1_1_2 cc1_1_3 cf1_1_3)
 go_wp2
 go_ret
 exact ⟨ret_int rfl,by exact below_auto⟩

set_option maxRecDepth 100000 in
theorem cmp_ss (lo hi lo' hi':Nat) (a b a' b':Bool) (w:World) (hl:lo<2 ^ 64) (hh:hi<2 ^ 64) (hl':lo'<2 ^ 64) (hh':hi'<2 ^ 64) (l h l' h':Key) (hr:Hid (canonS lo hi a b=some (l,h))) (hr':Hid (canonS lo' hi' a' b'=some (l',h'))) :
  Calls Tryz.prog 159 #[.agg #[.float .f64 lo,.float .f64 hi,.bool a,.bool b],.agg #[.float .f64 lo',.float .f64 hi',.bool a',.bool b']] w (Ret (.int .i64 (orI (cmpI l.v l'.v) (cmpI h.v h'.v))) w):=by
 go_enter Tryz.func159,Tryz.ntmps159
 go_wp2_with fail
 (refine wp_region_ext_tail 4 (by kernel_rfl) (by kernel_rfl) (by kernel_rfl) ?_;simp only [List.take_succ_cons,List.take_zero,List.drop_succ_cons,List.drop_zero];(repeat (go_big_quiet_step (first|(go_at_call 181;with_reducible exact Calls.ext_of (canon_isS lo hi a b l h _ (by assumption) (by assumption) hr))|(go_at_call 181;with_reducible exact Calls.ext_of (canon_isS lo' hi' a' b' l' h' _ (by assumption) (by assumption) hr')))));refine mX ?_;intro w1 hb1 hc1 hf1 hz1;intros)
 (have cc1_0_0:=hc1 (w.heap.size) 0 lt_auto;have cf1_0_0:=hf1 (w.heap.size) 0 lt_auto;have cc1_0_1:=hc1 (w.heap.size) 1 lt_auto;have cf1_0_1:=hf1 (w.heap.size) 1 lt_auto;have cc1_0_2:=hc1 (w.heap.size) 2 lt_auto;have cf1_0_2:=hf1 (w.heap.size) 2 lt_auto;have cc1_0_3:=hc1 (w.heap.size) 3 lt_auto;have cf1_0_3:=hf1 (w.heap.size) 3 lt_auto;have cc1_1_0:=hc1 (w.heap.size+1) 0 lt_auto;have cf1_1_0:=hf1 (w.heap.size+1) 0 lt_auto;have cc1_1_1:=hc1 (w.heap.size+1) 1 lt_auto;have cf1_1_1:=hf1 (w.heap.size+1) 1 lt_auto;have cc1_1_2:=hc1 (w.heap.size+1) 2 lt_auto;have cf1_1_2:=hf1 (w.heap.size+1) 2 lt_auto;have cc1_1_3:=hc1 (w.heap.size+1) 3 lt_auto;have cf1_1_3:=hf1 (w.heap.size+1) 3 lt_auto;clear hc1 hf1;simp [go_sem] at cc1_0_0 cf1_0_0 cc1_0_1 cf1_0_1 cc1_0_2 cf1_0_2 cc1_0_3 cf1_0_3 cc1_1_0 cf1_1_0 cc1_1_1 cf1_1_1 cc1_1_2 cf1_1_2 cc1_1_3 cf1_1_3)
 go_wp2_with fail
 (generalize hW2:World.setCell _ _ _=w2;have hB2:Below w.heap.size w w2:=(by rw [←hW2];exact below_auto);have hS2:=congrArg (fun W=>W.heap.size) hW2.symm;simp [go_sem] at hS2;have cc2_0_0:=congrArg (fun W=>W.cell? ⟨w.heap.size,0,none⟩) hW2.symm;have cf2_0_0:=congrArg (fun W=>W.frozen? ⟨w.heap.size,0,none⟩) hW2.symm;have cc2_0_1:=congrArg (fun W=>W.cell? ⟨w.heap.size,1,none⟩) hW2.symm;have cf2_0_1:=congrArg (fun W=>W.frozen? ⟨w.heap.size,1,none⟩) hW2.symm;have cc2_1_0:=congrArg (fun W=>W.cell? ⟨w.heap.size+1,0,none⟩) hW2.symm;have cf2_1_0:=congrArg (fun W=>W.frozen? ⟨w.heap.size+1,0,none⟩) hW2.symm;have cc2_1_1:=congrArg (fun W=>W.cell? ⟨w.heap.size+1,1,none⟩) hW2.symm;have cf2_1_1:=congrArg (fun W=>W.frozen? ⟨w.heap.size+1,1,none⟩) hW2.symm;clear hW2;simp [go_sem, *] at cc2_0_0;simp [go_sem, *] at cf2_0_0;simp [go_sem, *] at cc2_0_1;simp [go_sem, *] at cf2_0_1;simp [go_sem, *] at cc2_1_0;simp [go_sem, *] at cf2_1_0;simp [go_sem, *] at cc2_1_1;simp [go_sem, *] at cf2_1_1;(try have hw2_0:w.heap.size<w2.heap.size:=by omega);(try have hw2_1:w.heap.size+1<w2.heap.size:=by omega);(try have hw2_2:w.heap.size+1+1<w2.heap.size:=by omega);(try have hw2_3:w.heap.size+1+1+1<w2.heap.size:=by omega);clear hS2;(try clear hb1);(try clear hz1);(try clear hB1);(try clear cc1_0_0);(try clear cf1_0_0);(try clear cc1_0_1);(try clear cf1_0_1);(try clear cc1_1_0);(try clear cf1_1_0);(try clear cc1_1_1);(try clear cf1_1_1);(try clear hy1_0);(try clear hx1_0);(try clear hw1_0);(try clear hy1_1);(try clear hx1_1);(try clear hw1_1);(try clear hy1_2);(try clear hx1_2);(try clear hw1_2);(try clear hy1_3);(try clear hx1_3);(try clear hw1_3))
 (refine wp_region_ext_tail 10 (by kernel_rfl) (by kernel_rfl) (by kernel_rfl) ?_;simp only [List.take_succ_cons,List.take_zero,List.drop_succ_cons,List.drop_zero];(repeat (go_big_quiet_step (first|(go_at_call 214;with_reducible exact Calls.ext_same (floCmp_keys _ _ _)))));refine mX ?_;intro w3 hb3 hc3 hf3 hz3;intros)
 go_wp2_with (go_at_call 213;(with_reducible refine (or_two (cmpI l.v l'.v) (cmpI h.v h'.v) _ _ (by simp [go_sem]) (by simp [go_sem])).mono ?_);rintro e w' ⟨rfl,rfl⟩)
 go_ret
 exact ⟨ret_int rfl,by exact below_auto⟩

theorem cmp_any (lo hi lo' hi':Nat) (a b a' b':Bool) (w:World) (hl:lo<2 ^ 64) (hh:hi<2 ^ 64) (hl':lo'<2 ^ 64) (hh':hi'<2 ^ 64) :
  Calls Tryz.prog 159 #[.agg #[.float .f64 lo,.float .f64 hi,.bool a,.bool b],.agg #[.float .f64 lo',.float .f64 hi',.bool a',.bool b']] w (Ret (.int .i64 (cmpR (canonS lo hi a b) (canonS lo' hi' a' b'))) w):=by
 obtain ⟨r,hr⟩:∃ r,canonS lo hi a b=r:=⟨_,rfl⟩
 obtain ⟨r',hr'⟩:∃ r',canonS lo' hi' a' b'=r':=⟨_,rfl⟩
 rw [hr,hr']
 rcases r with _|⟨l,h⟩
 ·rcases r' with _|⟨l',h'⟩
  ·exact cmp_nn lo hi lo' hi' a b a' b' w hl hh hl' hh' hr hr'
  ·exact cmp_ns lo hi lo' hi' a b a' b' w hl hh hl' hh' hr l' h' hr'
 ·rcases r' with _|⟨l',h'⟩
  ·exact cmp_sn lo hi lo' hi' a b a' b' w hl hh hl' hh' l h hr hr'
  ·exact cmp_ss lo hi lo' hi' a b a' b' w hl hh hl' hh' l h l' h' hr hr'

end Go.Proofs.YtdeeoddacnealaaGreat.D