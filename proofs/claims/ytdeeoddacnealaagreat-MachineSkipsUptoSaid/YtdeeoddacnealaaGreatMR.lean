/- Several texts as one: R2 R3 R4 R5 G0 L0 Idx S1 SV SU. -/
import Derived.Test.YtdeeoddacnealaaGreatMFL
import Derived.Deep.RegionWith
import Derived.StillTailTactics
import Derived.Test.YtdeeoddacnealaaGreatMA
import Derived.WalkKit
set_option linter.unusedVariables false
namespace Go.Proofs.YtdeeoddacnealaaGreat
open Go.RowKit Fl

@[go_sem] theorem fieldRg0 (x0 x1 : Value) (w : World) : (Instr.field 162 (.agg #[x0, x1]) 0).run Tryz.prog w = .ok x0 w := by kernel_rfl
@[go_sem] theorem fieldRg1 (x0 x1 : Value) (w : World) : (Instr.field 162 (.agg #[x0, x1]) 1).run Tryz.prog w = .ok x1 w := by kernel_rfl

def rgv:Rg→Value
 | none=>.agg #[.int .u64 1,.int .u64 0]
 | some (l,h)=>.agg #[.int .u64 (kcode l),.int .u64 (kcode h)]
@[go_sem] theorem rgv_none : rgv none = .agg #[.int .u64 1, .int .u64 0] := rfl
@[go_sem] theorem rgv_some (l h : Key) : rgv (some (l, h)) = .agg #[.int .u64 (kcode l), .int .u64 (kcode h)] := rfl

def sameSp (a0 a1:Nat) (a2 a3:Bool) (b0 b1:Nat) (b2 b3:Bool):Bool:=decide (a2=b2∧a3=b3∧a0=b0∧a1=b1)

@[go_sem] theorem run_equalIn_float (d : Nat) (a b : Nat) (w : World) : (Op.equalIn (d + 1) 57 (.float .f64 a) (.float .f64 b)).run Tryz.prog w = .ok (feq a b) w := by
 rw [←ord_eq]
 simp [Op.equalIn,run_underlying Tryz.underlying57,Op.floatEq]

def klit (n:Nat) (h:n≤inf):Key:=⟨n,by omega,by omega⟩
theorem klit_bits (n:Nat) (h:n≤inf):(klit n h).bits=n:=by
 unfold Key.bits klit;rw [if_pos (by simp only;omega)];rfl
theorem klit_nan (n:Nat) (h:n≤inf):isNaN n=false:=by rw [←klit_bits n h];exact Key.bits_nan _
theorem feq_lit (a:Nat) (ha:a≤inf):feq a a=true:=by rw [feq_self,klit_nan a ha];rfl

theorem canonS_le {lo hi:Nat} {a b:Bool} {l h:Key} (e:canonS lo hi a b=some (l,h)):l.v≤h.v:=by
 by_cases hlh:(kof lo).v+(if a then 1 else 0)≤(kof hi).v-(if b then 1 else 0)
 ·by_cases hn:(isNaN lo||isNaN hi)=true
  ·unfold canonS at e;rw [if_pos hn] at e;cases e
  ·unfold canonS at e
   rw [if_neg hn,dif_pos hlh] at e
   rw [Option.some.injEq,Prod.mk.injEq] at e
   rw [←e.1,←e.2];exact hlh
 ·rw [canonS_none hlh] at e;cases e

theorem empty_is (lo hi:Nat) (a b:Bool) (r:Bool) (w:World) (hl:lo<2 ^ 64) (hh:hi<2 ^ 64) (hr:Hid ((canonS lo hi a b).isNone=r)) :
  Calls Tryz.prog 108 #[.agg #[.float .f64 lo,.float .f64 hi,.bool a,.bool b]] w (Ret (.bool r) w):=by
 have h:=empty_any lo hi a b w hl hh
 rw [hr.out] at h
 exact h
theorem canonS_canon (l h:Key) (hlh:l.v≤h.v):canonS l.bits h.bits false false=some (l,h):=by
 refine canonS_some (by simp [Key.bits_nan]) ?_ ?_ hlh
 ·rw [Key.kof_bits];simp
 ·rw [Key.kof_bits];simp
theorem canonS_empty:canonS 0 0 true true=none:=canonS_none (by rw [kof_zero];simp)
def slo:Rg→Nat|none=>0|some (l,_)=>l.bits
def shi:Rg→Nat|none=>0|some (_,h)=>h.bits
def sop:Rg→Bool|none=>true|some _=>false
def okR:Rg→Prop|none=>True|some (l,h)=>l.v≤h.v

theorem spv_gen (r:Rg):spv r=.agg #[.float .f64 (slo r),.float .f64 (shi r),.bool (sop r),.bool (sop r)]:=by rcases r with _|⟨l,h⟩ <;> rfl
theorem slo_lt (r:Rg):slo r<2 ^ 64:=by
 rcases r with _|⟨l,h⟩
 ·exact Nat.two_pow_pos 64
 ·exact Key.bits_lt l
theorem shi_lt (r:Rg):shi r<2 ^ 64:=by
 rcases r with _|⟨l,h⟩
 ·exact Nat.two_pow_pos 64
 ·exact Key.bits_lt h
theorem feq_slo (r:Rg):feq (slo r) (slo r)=true:=by
 rw [feq_self];rcases r with _|⟨l,h⟩
 ·exact feq_self 0 ▸ feq_lit 0 (by unfold inf;omega)
 ·simp [slo,Key.bits_nan]
theorem feq_shi (r:Rg):feq (shi r) (shi r)=true:=by
 rw [feq_self];rcases r with _|⟨l,h⟩
 ·exact feq_self 0 ▸ feq_lit 0 (by unfold inf;omega)
 ·simp [shi,Key.bits_nan]
theorem isNaN_slo (r:Rg):isNaN (slo r)=false:=by have:=feq_slo r;rw [feq_self] at this;simpa using this
theorem isNaN_shi (r:Rg):isNaN (shi r)=false:=by have:=feq_shi r;rw [feq_self] at this;simpa using this
theorem okR_canon (lo hi:Nat) (a b:Bool):okR (canonS lo hi a b):=by
 rcases e:canonS lo hi a b with _|⟨l,h⟩
 ·trivial
 ·exact canonS_le e
theorem canonS_gen {r:Rg} (ok:okR r):canonS (slo r) (shi r) (sop r) (sop r)=r:=by
 rcases r with _|⟨l,h⟩
 ·exact canonS_empty
 ·exact canonS_canon l h ok
theorem canonG (lo hi:Nat) (a b:Bool) (r:Rg) (w:World) (hl:lo<2 ^ 64) (hh:hi<2 ^ 64) (hr:Hid (canonS lo hi a b=r)) :
  Calls Tryz.prog 181 #[.agg #[.float .f64 lo,.float .f64 hi,.bool a,.bool b]] w (Ret (.agg #[.float .f64 (slo r),.float .f64 (shi r),.bool (sop r),.bool (sop r)]) w):=by
 have h:=canon_any lo hi a b w hl hh
 rw [hr.out,spv_gen] at h
 exact h
theorem has_is (lo hi:Nat) (a b:Bool) (key:Nat) (v:Bool) (w:World) (hl:lo<2 ^ 64) (hh:hi<2 ^ 64) (hv:Hid (hasB (canonS lo hi a b) key=v)) :
  Calls Tryz.prog 230 #[.agg #[.float .f64 lo,.float .f64 hi,.bool a,.bool b],.float .f64 key] w (Ret (.bool v) w):=by
 have h:=has_any lo hi a b key w hl hh
 rw [hv.out] at h
 exact h

def idxB {α:Type} (p:α→Bool) (xs:List α):Int:=match xs.findIdx? p with|some i=>i|none=>-1
theorem idxB_none {α:Type} {p:α→Bool} {xs:List α} (h:∀ (i:Nat) x,xs[i]? = some x→p x=false):idxB p xs = -1:=by
 unfold idxB
 rw [List.findIdx?_eq_none_iff.2 (fun x hx=>?_)]
 obtain ⟨i,hi⟩:=List.mem_iff_getElem?.1 hx
 exact h i x hi
theorem idxB_some {α:Type} {p:α→Bool} {xs:List α} {k:Nat} {x:α} (hk:xs[k]? = some x) (hp:p x=true) (h:∀ j:Nat,j<k→∀ y,xs[j]? = some y→p y=false):idxB p xs=k:=by
 unfold idxB
 have hlt:k<xs.length:=(List.getElem?_eq_some_iff.1 hk).1
 have hx:xs[k]=x:=(List.getElem?_eq_some_iff.1 hk).2
 have:xs.findIdx? p=some k:=by
  rw [List.findIdx?_eq_some_iff_getElem]
  refine ⟨hlt,by rw [hx];exact hp,fun j hj=>?_⟩
  have:=h j hj xs[j] (List.getElem?_eq_getElem (by omega))
  simp [this]
 rw [this]
theorem idxB_any {α:Type} (p:α→Bool) (xs:List α):decide (0≤idxB p xs)=xs.any p:=by
 rw [Bool.eq_iff_iff,decide_eq_true_eq,List.any_eq_true]
 unfold idxB
 constructor
 ·intro h
  cases e:xs.findIdx? p with
  | none=>rw [e] at h;simp at h
  | some i =>
   obtain ⟨hi,hp,_⟩:=List.findIdx?_eq_some_iff_getElem.1 e
   exact ⟨_,List.getElem_mem hi,hp⟩
 ·rintro ⟨x,hx,hp⟩
  cases e:xs.findIdx? p with
  | none=>rw [List.findIdx?_eq_none_iff] at e;have:=e x hx;rw [hp] at this;cases this
  | some i=>simp

structure FAt (w:World) (a:Option Addr) (xs:List Nat):Prop where
 row:xs=[]∨∃ b o,a=some ⟨b,o,none⟩∧b<w.heap.size∧∀ i,i<xs.length→w.cell? ⟨b,o+i,none⟩=some (.float .f64 (xs[i]?.getD 0))
 lt:∀ i,i<xs.length→xs[i]?.getD 0<2 ^ 64
 len:xs.length≤maxLen

theorem FAt.below {w w':World} {a:Option Addr} {xs:List Nat} (h:FAt w a xs) (hb:Below w.heap.size w w'):FAt w' a xs:=by
 refine ⟨?_,h.lt,h.len⟩
 rcases h.row with h0|⟨b,o,h1,h2,h3⟩
 ·exact .inl h0
 ·exact .inr ⟨b,o,h1,Nat.lt_of_lt_of_le h2 hb.size,fun i hi=>(hb.cell (p:=⟨b,o+i,none⟩) h2).trans (h3 i hi)⟩

theorem fl_some {xs:List Nat} {k:Nat} (h:k<xs.length):xs[k]? = some (xs[k]?.getD 0):=by rw [List.getElem?_eq_getElem h];rfl

theorem slIndex_any (a:Option Addr) (c key:Nat) (xs:List Nat) (n:Nat) (w:World) (hn:xs.length=n) (h:FAt w a xs) :
  Calls Tryz.prog 231 #[.slice a n c,.float .f64 key] w fun e w'=>e=.returned (.int .i64 (idxB (fun x=>feq key x) xs))∧w=w':=by
 obtain ⟨hr,hl,hm⟩:=h
 unfold maxLen at hm
 rcases hr with rfl|⟨b,o,rfl,hb,hc⟩
 ·simp only [List.length_nil] at hn
  subst hn
  have e:idxB (fun x=>feq key x) [] = -1:=rfl
  rw [e]
  clear hl e
  go_enter Tryz.func231,Tryz.ntmps231
  go_wp2
  go_loop [8] (fun i=>i=.int .i64 0) (fun _=>0)
  case atStart=>rfl
  case round =>
   subst hrel
   go_wp2
   go_ret
   exact ⟨rfl,rfl⟩
 ·have HC:=hid hc;have HN:=hid hn
  rw [hn] at hm
  clear hc hn hl
  go_enter Tryz.func231,Tryz.ntmps231
  go_wp2
  go_loop [8] (fun i=>∃ k:Nat,k≤n∧i=.int .i64 k∧Hid (∀ j,j<k→∀ y,xs[j]? = some y→feq key y=false)) (fun i=>n-(intOf i).toNat)
  case atStart=>exact ⟨0,Nat.zero_le _,rfl,hid fun j hj=>absurd hj (Nat.not_lt_zero _)⟩
  case round =>
   obtain ⟨k,hk,rfl,HR⟩:=hrel
   by_cases hlt:k<n
   ·have hcell:=HC.out k (by rw [HN.out];exact hlt)
    have hlt':(k:Int)<(n:Int):=by omega
    have hkx:=hid (fl_some (xs:=xs) (k:=k) (by rw [HN.out];exact hlt))
    cases hp:feq key (xs[k]?.getD 0)
    ·go_wp2
     go_round
     case rel=>exact ⟨k+1,by omega,by go_num,hid fun j hj y hy=>by
       by_cases h:j<k
       ·exact HR.out j h y hy
       ·obtain rfl:j=k:=by omega
        rw [hkx.out] at hy;cases hy;exact hp⟩
     case measure=>simp [intOf];omega
    ·go_wp2
     go_ret
     exact ⟨ret_int (by rw [idxB_some hkx.out hp HR.out]),rfl⟩
   ·obtain rfl:k=n:=by omega
    go_wp2
    go_ret
    refine ⟨ret_int ?_,rfl⟩
    rw [idxB_none]
    intro i x hx
    refine HR.out i ?_ x hx
    have:=(List.getElem?_eq_some_iff.1 hx).1
    have:=HN.out
    omega

theorem slContains_any (a:Option Addr) (c key:Nat) (xs:List Nat) (n:Nat) (w:World) (hn:xs.length=n) (h:FAt w a xs) :
  Calls Tryz.prog 190 #[.slice a n c,.float .f64 key] w fun e w'=>e=.returned (.bool (xs.any fun x=>feq key x))∧w=w':=by
 have H:=fun W hW=>slIndex_any a c key xs n W hn hW
 rw [←idxB_any]
 generalize idxB (fun x=>feq key x) xs=r at *
 have hn':=hid hn
 clear hn
 go_enter Tryz.func190,Tryz.ntmps190
 go_wp2_with (go_at_call 231;(with_reducible refine (H _ h).mono ?_);rintro e w' ⟨rfl,rfl⟩)
 go_ret
 exact ⟨rfl,rfl⟩

structure SpanV where
 lo:Nat
 hi:Nat
 a:Bool
 b:Bool
instance:Inhabited SpanV:=⟨⟨0,0,false,false⟩⟩
def SpanV.rg (s:SpanV):Rg:=canonS s.lo s.hi s.a s.b

structure SAt (w:World) (a:Option Addr) (ss:List SpanV):Prop where
 row:ss=[]∨∃ b o,a=some ⟨b,o,none⟩∧b<w.heap.size∧∀ i,i<ss.length→w.cell? ⟨b,o+i * 4,none⟩=some (.float .f64 (ss[i]?.getD default).lo)∧w.cell? ⟨b,o+i * 4+1,none⟩=some (.float .f64 (ss[i]?.getD default).hi) ∧
  w.cell? ⟨b,o+i * 4+2,none⟩=some (.bool (ss[i]?.getD default).a)∧w.cell? ⟨b,o+i * 4+3,none⟩=some (.bool (ss[i]?.getD default).b)
 lt:∀ i,i<ss.length→(ss[i]?.getD default).lo<2 ^ 64∧(ss[i]?.getD default).hi<2 ^ 64
 len:ss.length≤maxLen

theorem SAt.below {w w':World} {a:Option Addr} {ss:List SpanV} (h:SAt w a ss) (hb:Below w.heap.size w w'):SAt w' a ss:=by
 refine ⟨?_,h.lt,h.len⟩
 rcases h.row with h0|⟨b,o,h1,h2,h3⟩
 ·exact .inl h0
 ·have k:=fun j=>hb.cell (p:=⟨b,j,none⟩) h2
  exact .inr ⟨b,o,h1,Nat.lt_of_lt_of_le h2 hb.size,fun i hi=>⟨(k _).trans (h3 i hi).1,(k _).trans (h3 i hi).2.1,(k _).trans (h3 i hi).2.2.1,(k _).trans (h3 i hi).2.2.2⟩⟩
theorem sp_some {ss:List SpanV} {k:Nat} (h:k<ss.length):ss[k]? = some (ss[k]?.getD default):=by rw [List.getElem?_eq_getElem h];rfl

structure SubV where
 s0:Int
 s1:Int
 s2:Int
 ra:Option Addr
 rc:Nat
 rs:List Nat
 sa:Option Addr
 sc:Nat
 ss:List SpanV
 wa:Option Addr
 wc:Nat
 ws:List Nat
structure SubV.At (x:SubV) (w:World):Prop where
 r:FAt w x.ra x.rs
 s:SAt w x.sa x.ss
 w:FAt w x.wa x.ws
theorem SubV.At.below {x:SubV} {w w':World} (h:x.At w) (hb:Below w.heap.size w w'):x.At w':=⟨h.r.below hb,h.s.below hb,h.w.below hb⟩
def SubV.reads (x:SubV) (key:Nat):Bool:=(x.rs.any fun k=>feq key k)||(x.ss.any fun s=>hasB s.rg key)
def SubV.writes (x:SubV) (key:Nat):Bool:=x.ws.any fun k=>feq key k
def SubV.meets (a b:SubV):Bool:=b.ws.any fun k=>a.reads k

end Go.Proofs.YtdeeoddacnealaaGreat