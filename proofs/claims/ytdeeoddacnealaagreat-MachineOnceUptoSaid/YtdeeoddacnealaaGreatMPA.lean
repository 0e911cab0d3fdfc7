/- Several texts as one: PB PA PP. -/
import Derived.Test.YtdeeoddacnealaaGreatMNK
import Derived.Test.YtdeeoddacnealaaGreatMCH
import Derived.Test.YtdeeoddacnealaaGreatMNC
set_option linter.unusedVariables false
namespace Go.Proofs.YtdeeoddacnealaaGreat.P
open Fl

structure Good {α:Type} (p:List Nat→Option (α×List Nat)) (e:α→List Nat) (D:α→Prop):Prop where
 fwd:∀ a r,D a→p (e a++r)=some (a,r)
 bwd:∀ b a r,p b=some (a,r)→(∀ x∈b,x<256)→b=e a++r∧D a

def vlq (u:Nat):List Nat:=if h:u<128 then [u] else (u % 128+128) :: vlq (u / 128)
termination_by u
decreasing_by omega
theorem vlq_lt {u:Nat} (h:u<128):vlq u=[u]:=by rw [vlq,dif_pos h]
theorem vlq_ge {u:Nat} (h:¬u<128):vlq u=(u % 128+128) :: vlq (u / 128):=by rw [vlq,dif_neg h]
theorem vlq_byte (u:Nat):∀ x∈vlq u,x<256:=by
 induction u using vlq.induct with
 | case1 u h=>rw [vlq_lt h];intro x hx;rw [List.mem_singleton.1 hx];omega
 | case2 u h ih =>
  rw [vlq_ge h];intro x hx
  rcases List.mem_cons.1 hx with rfl|hx
  ·omega
  ·exact ih x hx
theorem vlq_len:∀ (k u:Nat),u<128 ^ (k+1)→(vlq u).length≤k+1
 | 0,u,h=>by rw [vlq_lt (by simpa using h)];simp
 | k+1,u,h=>by
  by_cases hu:u<128
  ·rw [vlq_lt hu];simp
  ·rw [vlq_ge hu]
   have:=vlq_len k (u / 128) (by rw [Nat.pow_succ] at h;omega)
   simp;omega
def getV:Nat→Nat→List Nat→Option (Nat×List Nat)
 | _,_,[]=>none
 | i,u,c :: r=>if (i=9∧1<c)∨(0<i∧c=0) then none else if c<128 then some (u+c * 128 ^ i,r) else getV (i+1) (u+c % 128 * 128 ^ i) r
theorem getV_fwd:∀ (k i u v:Nat) (r:List Nat),i+k=9→v<2 * 128 ^ k→(0<i→0<v)→getV i u (vlq v++r)=some (u+v * 128 ^ i,r)
 | 0,i,u,v,r,hi,hv,h0=>by
  rw [vlq_lt (by simp at hv;omega),List.singleton_append,getV,if_neg (by simp at hv;omega),if_pos (by simp at hv;omega)]
 | k+1,i,u,v,r,hi,hv,h0=>by
  by_cases hs:v<128
  ·rw [vlq_lt hs,List.singleton_append,getV,if_neg (by omega),if_pos hs]
  ·rw [vlq_ge hs,List.cons_append,getV,if_neg (by omega),if_neg (by omega),getV_fwd k (i+1) _ (v / 128) r (by omega) (by rw [Nat.pow_succ] at hv;omega) (by omega)]
   have e1:(v % 128+128) % 128=v % 128:=by omega
   have e2:v % 128 * 128 ^ i+v / 128 * 128 ^ (i+1)=v * 128 ^ i:=by
    rw [Nat.pow_succ,Nat.mul_comm (128 ^ i) 128,←Nat.mul_assoc,←Nat.add_mul]
    congr 1;omega
   rw [e1,Nat.add_assoc,e2]
theorem getV_bwd:∀ (b:List Nat) (k i u:Nat) (x:Nat) (r:List Nat),i+k=9→(∀ c∈b,c<256)→getV i u b=some (x,r)→∃ v,x=u+v * 128 ^ i∧b=vlq v++r∧v<2 * 128 ^ k∧(0<i→0<v)
 | [],k,i,u,x,r,_,_,h=>by simp [getV] at h
 | c :: b,k,i,u,x,r,hi,hb,h=>by
  have hc:=hb c (List.mem_cons_self ..)
  rw [getV] at h
  by_cases h1:(i=9∧1<c)∨(0<i∧c=0)
  ·rw [if_pos h1] at h;cases h
  ·rw [if_neg h1] at h
   by_cases h2:c<128
   ·rw [if_pos h2] at h
    cases h
    refine ⟨c,rfl,by rw [vlq_lt h2];rfl,?_,by omega⟩
    rcases Nat.eq_zero_or_pos k with rfl|hk
    ·simp;omega
    ·obtain ⟨j,rfl⟩:∃ j,k=j+1:=⟨k-1,by omega⟩
     have:=Nat.pow_pos (n:=j) (show 0<128 by omega)
     rw [Nat.pow_succ];omega
   ·rw [if_neg h2] at h
    rcases Nat.eq_zero_or_pos k with rfl|hk
    ·omega
    ·obtain ⟨j,rfl⟩:∃ j,k=j+1:=⟨k-1,by omega⟩
     obtain ⟨v,rfl,rfl,hv,hp⟩:=getV_bwd b j (i+1) _ x r (by omega) (fun y hy=>hb y (List.mem_cons_of_mem _ hy)) h
     have hp:=hp (by omega)
     have hd:(c % 128+128 * v) / 128=v:=by omega
     have hm:(c % 128+128 * v) % 128=c % 128:=by omega
     refine ⟨c % 128+128 * v,?_,?_,by rw [Nat.pow_succ];omega,by omega⟩
     ·rw [Nat.add_assoc,Nat.pow_succ,Nat.mul_comm (128 ^ i) 128,←Nat.mul_assoc,←Nat.add_mul,Nat.mul_comm v 128]
     ·rw [vlq_ge (u:=c % 128+128 * v) (by omega),hd,hm,show c % 128+128=c by omega];rfl

def zig (n:Int):Nat:=if 0≤n then 2 * n.toNat else 2 * (-n-1).toNat+1
def zag (u:Nat):Int:=if u % 2=0 then (u / 2:Nat) else -((u / 2:Nat):Int)-1
theorem zag_zig (n:Int):zag (zig n)=n:=by
 unfold zag zig
 by_cases h:0≤n
 ·rw [if_pos h,if_pos (by omega)];omega
 ·rw [if_neg h,if_neg (by omega)];omega
theorem zig_zag (u:Nat):zig (zag u)=u:=by
 unfold zag zig
 by_cases h:u % 2=0
 ·rw [if_pos h,if_pos (by omega)];omega
 ·rw [if_neg h,if_neg (by omega)];omega
theorem zig_lt {n:Int} (h1:-9223372036854775808≤n) (h2:n<9223372036854775808):zig n<18446744073709551616:=by unfold zig;split <;> omega
theorem zag_lt {u:Nat} (h:u<18446744073709551616):-9223372036854775808≤zag u∧zag u<9223372036854775808:=by unfold zag;split <;> omega
def numB (n:Int):List Nat:=vlq (zig n)
def NumD (n:Int):Prop:=-9223372036854775808≤n∧n<9223372036854775808
def getNum (b:List Nat):Option (Int×List Nat):=(getV 0 0 b).map fun p=>(zag p.1,p.2)
theorem num_good:Good getNum numB NumD where
 fwd n r h:=by
  unfold getNum numB
  rw [getV_fwd 9 0 0 (zig n) r rfl (by have:=zig_lt h.1 h.2;omega) (fun h=>absurd h (by omega))]
  simp [zag_zig]
 bwd b n r h hb:=by
  unfold getNum at h
  cases hv:getV 0 0 b with
  | none=>rw [hv] at h;cases h
  | some p =>
   obtain ⟨x,r'⟩:=p
   rw [hv] at h
   simp only [Option.map_some,Option.some.injEq,Prod.mk.injEq] at h
   obtain ⟨rfl,rfl⟩:=h
   obtain ⟨v,rfl,rfl,hlt,_⟩:=getV_bwd b 9 0 0 _ _ rfl hb hv
   have e:0+v * 128 ^ 0=v:=by simp
   rw [e]
   refine ⟨by unfold numB;rw [zig_zag],zag_lt (by omega)⟩
def keyB (u:Nat):List Nat:=[u / 72057594037927936 % 256,u / 281474976710656 % 256,u / 1099511627776 % 256,u / 4294967296 % 256,u / 16777216 % 256,u / 65536 % 256,u / 256 % 256,u % 256]
def unkeyB:List Nat→Nat:=List.foldl (fun u c=>u * 256+c) 0
theorem unkeyB_keyB {u:Nat} (h:u<18446744073709551616):unkeyB (keyB u)=u:=by
 unfold unkeyB keyB
 simp only [List.foldl_cons,List.foldl_nil]
 omega
theorem keyB_unkeyB {l:List Nat} (h:l.length=8) (hb:∀ c∈l,c<256):keyB (unkeyB l)=l∧unkeyB l<18446744073709551616:=by
 match l,h with
 | [a,b,c,d,e,f,g,i],_ =>
  have h1:=hb a (by simp);have h2:=hb b (by simp);have h3:=hb c (by simp);have h4:=hb d (by simp)
  have h5:=hb e (by simp);have h6:=hb f (by simp);have h7:=hb g (by simp);have h8:=hb i (by simp)
  unfold unkeyB keyB
  simp only [List.foldl_cons,List.foldl_nil,List.cons.injEq,and_true]
  omega
def codeN (b:Nat):Nat:=(codeOf b).toNat
def ofN (u:Nat):Nat:=if u=0 then nanBits else if top≤u then u-top else 18446744073709551615-u
def okN (u:Nat):Bool:=decide (codeN (ofN u)=u)
theorem codeOf_nn (b:Nat):0≤codeOf b:=by
 unfold codeOf;split
 ·exact Int.le_refl _
 ·have:=kcode_lo (kof b);omega
theorem codeN_int (b:Nat):((codeN b:Nat):Int)=codeOf b:=by unfold codeN;have:=codeOf_nn b;omega
theorem codeN_lt (b:Nat):codeN b<18446744073709551616:=by
 unfold codeN codeOf;split
 ·decide
 ·have:=kcode_hi (kof b);omega
theorem ofN_codeN (b:Nat):ofN (codeN b)=cbits b:=by
 unfold ofN codeN codeOf
 by_cases hn:isNaN b=true
 ·rw [if_pos hn,cbits_nan hn];rfl
 ·have hn':isNaN b=false:=by simpa using hn
  rw [if_neg hn,cbits_num hn']
  have h1:=kcode_lo (kof b);have h2:=kcode_hi (kof b)
  have h3:=(kof b).lo;have h4:=(kof b).hi
  unfold inf at h3 h4
  unfold kcode Key.bits top
  by_cases hp:0≤(kof b).v
  ·simp only [if_pos hp]
   rw [if_neg (by omega),if_pos (by omega)];omega
  ·simp only [if_neg hp]
   rw [if_neg (by omega),if_neg (by omega)];omega
theorem okN_codeN (b:Nat):okN (codeN b)=true:=by
 unfold okN
 rw [decide_eq_true_eq,ofN_codeN]
 unfold codeN
 rw [K.codeOf_cbits]
theorem okN_cbits {u:Nat} (h:okN u=true):cbits (ofN u)=ofN u:=by
 unfold okN at h
 rw [decide_eq_true_eq] at h
 rw [←ofN_codeN,h]
def KeyD (x:Nat):Prop:=cbits x=x
def getKey (b:List Nat):Option (Nat×List Nat):=if b.length<8 then none else if okN (unkeyB (b.take 8)) then some (ofN (unkeyB (b.take 8)),b.drop 8) else none
theorem keyB_len (u:Nat):(keyB u).length=8:=rfl
theorem key_good:Good getKey (fun x=>keyB (codeN x)) KeyD where
 fwd x r h:=by
  unfold getKey
  rw [if_neg (by rw [List.length_append,keyB_len];omega),List.take_append_of_le_length (by rw [keyB_len];omega),List.take_of_length_le (by rw [keyB_len];omega),unkeyB_keyB (codeN_lt x),if_pos (okN_codeN x),ofN_codeN,h,
   List.drop_append_of_le_length (by rw [keyB_len];omega),List.drop_of_length_le (by rw [keyB_len];omega)]
  rfl
 bwd b x r h hb:=by
  unfold getKey at h
  by_cases h8:b.length<8
  ·rw [if_pos h8] at h;cases h
  ·rw [if_neg h8] at h
   obtain ⟨h1,h2⟩:=keyB_unkeyB (l:=b.take 8) (by rw [List.length_take];omega) (fun c hc=>hb c (List.mem_of_mem_take hc))
   by_cases hk:okN (unkeyB (b.take 8))=true
   ·rw [if_pos hk] at h
    cases h
    refine ⟨?_,okN_cbits hk⟩
    have:codeN (ofN (unkeyB (b.take 8)))=unkeyB (b.take 8):=by unfold okN at hk;simpa using hk
    rw [this,h1,List.take_append_drop]
   ·rw [if_neg hk] at h;cases h

def getMany {α:Type} (p:List Nat→Option (α×List Nat)):Nat→List Nat→Option (List α×List Nat)
 | 0,b=>some ([],b)
 | n+1,b=>match getMany p n b with
  | none=>none
  | some (xs,r)=>match p r with
   | none=>none
   | some (x,r')=>some (xs++[x],r')
theorem many_fwd {α:Type} {p:List Nat→Option (α×List Nat)} {e:α→List Nat} {D:α→Prop} (g:Good p e D):∀ (n:Nat) (xs:List α) (r:List Nat),xs.length=n→(∀ x∈xs,D x)→getMany p n (xs.flatMap e++r)=some (xs,r)
 | 0,xs,r,hn,_=>by rw [List.eq_nil_of_length_eq_zero hn];rfl
 | n+1,xs,r,hn,hd=>by
  have hne:xs≠[]:=by intro h;rw [h] at hn;cases hn
  have hx:=List.dropLast_concat_getLast hne
  rw [←hx] at hd ⊢
  generalize xs.getLast hne=y at *
  generalize hys:xs.dropLast=ys at *
  have hl:ys.length=n:=by rw [←hys,List.length_dropLast];omega
  rw [getMany,List.flatMap_append,List.append_assoc,many_fwd g n ys _ hl (fun x h=>hd x (List.mem_append_left _ h))]
  simp only [List.flatMap_cons,List.flatMap_nil,List.append_nil]
  rw [g.fwd y r (hd y (by simp))]
theorem many_bwd {α:Type} {p:List Nat→Option (α×List Nat)} {e:α→List Nat} {D:α→Prop} (g:Good p e D):∀ (n:Nat) (b:List Nat) (xs:List α) (r:List Nat),getMany p n b=some (xs,r)→(∀ x∈b,x<256)→b=xs.flatMap e++r∧xs.length=n∧∀ x∈xs,D x
 | 0,b,xs,r,h,_=>by cases h;exact ⟨rfl,rfl,fun x hx=>by cases hx⟩
 | n+1,b,xs,r,h,hb=>by
  rw [getMany] at h
  cases h1:getMany p n b with
  | none=>rw [h1] at h;cases h
  | some q =>
   obtain ⟨ys,s⟩:=q
   rw [h1] at h
   simp only at h
   obtain ⟨e1,hl,hd⟩:=many_bwd g n b ys s h1 hb
   cases h2:p s with
   | none=>rw [h2] at h;cases h
   | some q2 =>
    obtain ⟨y,t⟩:=q2
    rw [h2] at h
    cases h
    obtain ⟨e2,hy⟩:=g.bwd s y _ h2 (fun x hx=>hb x (by rw [e1];exact List.mem_append_right _ hx))
    refine ⟨by rw [e1,e2];simp,by simp [hl],fun x hx=>?_⟩
    rcases List.mem_append.1 hx with hx|hx
    ·exact hd x hx
    ·rw [List.mem_singleton.1 hx];exact hy
def both {α β:Type} (p:List Nat→Option (α×List Nat)) (q:List Nat→Option (β×List Nat)) (b:List Nat):Option ((α×β)×List Nat):=match p b with
 | none=>none
 | some (x,r)=>match q r with
  | none=>none
  | some (y,s)=>some ((x,y),s)
theorem both_good {α β:Type} {p:List Nat→Option (α×List Nat)} {q:List Nat→Option (β×List Nat)} {e:α→List Nat} {f:β→List Nat} {D:α→Prop} {E:β→Prop} (g:Good p e D) (h:Good q f E):Good (both p q) (fun x=>e x.1++f x.2) (fun x=>D x.1∧E x.2) where
 fwd x r hx:=by
  unfold both
  rw [List.append_assoc,g.fwd _ _ hx.1]
  simp only
  rw [h.fwd _ _ hx.2]
 bwd b x r hx hb:=by
  unfold both at hx
  cases h1:p b with
  | none=>rw [h1] at hx;cases hx
  | some q1 =>
   obtain ⟨y,s⟩:=q1
   rw [h1] at hx
   simp only at hx
   obtain ⟨e1,d1⟩:=g.bwd _ _ _ h1 hb
   cases h2:q s with
   | none=>rw [h2] at hx;cases hx
   | some q2 =>
    obtain ⟨z,t⟩:=q2
    rw [h2] at hx
    cases hx
    obtain ⟨e2,d2⟩:=h.bwd s z _ h2 (fun x hx=>hb x (by rw [e1];exact List.mem_append_right _ hx))
    exact ⟨by rw [e1,e2,List.append_assoc],d1,d2⟩
def getCount (most:Nat) (b:List Nat):Option (Nat×List Nat):=match getNum b with
 | none=>none
 | some (n,r)=>if n<0∨(most:Int)<n then none else some (n.toNat,r)
def getRow {α:Type} (most:Nat) (p:List Nat→Option (α×List Nat)) (b:List Nat):Option (List α×List Nat):=match getCount most b with
 | none=>none
 | some (n,r)=>getMany p n r
theorem row_good {α:Type} {p:List Nat→Option (α×List Nat)} {e:α→List Nat} {D:α→Prop} (most:Nat) (hm:most<9223372036854775808) (g:Good p e D):Good (getRow most p) (fun xs=>numB xs.length++xs.flatMap e) (fun xs=>xs.length≤most∧∀ x∈xs,D x) where
 fwd xs r hx:=by
  unfold getRow getCount
  rw [List.append_assoc,num_good.fwd _ _ ⟨by omega,by omega⟩]
  simp only
  rw [if_neg (by omega)]
  exact many_fwd g _ xs r (by simp) hx.2
 bwd b xs r hx hb:=by
  unfold getRow getCount at hx
  cases h1:getNum b with
  | none=>rw [h1] at hx;cases hx
  | some q1 =>
   obtain ⟨n,s⟩:=q1
   rw [h1] at hx
   simp only at hx
   obtain ⟨e1,d1⟩:=num_good.bwd _ _ _ h1 hb
   by_cases hc:n<0∨(most:Int)<n
   ·rw [if_pos hc] at hx;cases hx
   ·rw [if_neg hc] at hx
    simp only at hx
    obtain ⟨e2,hl,hd⟩:=many_bwd g _ _ _ _ hx (fun x hx=>hb x (by rw [e1];exact List.mem_append_right _ hx))
    have hn:(xs.length:Int)=n:=by omega
    exact ⟨by rw [e1,e2,hn,List.append_assoc],by omega,hd⟩
open Go.RowKit Fl

def bCells (l:List Nat):List Value:=l.map fun b=>.int .u8 (b:Nat)
theorem byteInfo:(Tryz.prog.info? 5).map (fun i=>(i.zero,i.size,i.bytes))=some (some (.int .u8 0),1,1):=by kernel_rfl
structure BAt (w:World) (a:Option Addr) (bs:List Nat):Prop where
 row:bs=[]∨∃ b o,a=some ⟨b,o,none⟩∧b<w.heap.size∧∀ i,i<bs.length→w.cell? ⟨b,o+i,none⟩=some (.int .u8 (bs[i]?.getD 0:Nat))
 lt:∀ x∈bs,x<256
 len:bs.length≤maxLen
theorem own_sliceB {w:World} {B n:Nat} {v:Value} {cs:List Value} (h:w.ownsRow B 5 1 v n cs):∃ va vc,v=.slice va n vc:=by
 rcases h.2 with ⟨rfl,h0⟩|⟨g,cap,cur,rfl,_⟩
 ·exact ⟨none,0,by rw [h0]⟩
 ·exact ⟨_,_,rfl⟩
theorem appB2 {w:World} {base:Nat} {a:Option Addr} {c n:Nat} {xs:List Nat} (b:Nat) (hn:xs.length=n) (hown:w.ownsRow base 5 1 (.slice a n c) n (bCells xs)) (hbase:base≤w.heap.size) (hl:n≤17592186044414) :
  ∃ a' c' w',(∀ ty,(Builtin.append_ #[59,59] ty #[.slice a n c,.slice (some ⟨w.heap.size,0,none⟩) 1 1]).run Tryz.prog (w.alloc (.cells #[.int .u8 (b:Nat)] 5))=.ok (.slice a' (n+1) c') w') ∧
   w'.ownsRow base 5 1 (.slice a' (n+1) c') (n+1) (bCells (xs++[b]))∧Below base w w'∧Grew w w' (.slice a n c) (.slice a' (n+1) c'):=by
 obtain ⟨i0,hi0,hz0,hzs,hzb⟩:=info_parts byteInfo
 have hb1:Below w.heap.size w (w.alloc (.cells #[.int .u8 (b:Nat)] 5)):=by exact below_auto
 have hown1:=hown.kept (K.grown_of_below hb1) (by cases (Value.slice a n c).ownBlock <;> simp)
 obtain ⟨v',w',hr,h2,h3⟩:=run_append_own2 (P:=Tryz.prog) (w.alloc (.cells #[.int .u8 (b:Nat)] 5)) base 59 5 i0 _ 1 1 Tryz.underlying59 hi0 hz0 hzs hzb rfl (by omega) _ _ _ hown1 ⟨w.heap.size,0,none⟩ 1 1 [.int .u8 (b:Nat)] rfl
  (fun j u hj=>by
   have hrow:(w.alloc (.cells #[.int .u8 (b:Nat)] 5)).heap[w.heap.size]? = some (.cells #[.int .u8 (b:Nat)] 5 (0,0)):=heap_alloc_new w _
   rw [K.addr0,cell_of_row _ _ j _ _ (0,0) hrow]
   rw [←hj];simp) (by intro u hu;rw [List.mem_singleton.1 hu];rfl) (by omega) (by unfold maxLen;omega) (by omega) (by simp;omega)
 have hc:bCells xs++[.int .u8 (b:Nat)]=bCells (xs++[b]):=by simp [bCells]
 rw [hc] at h2
 obtain ⟨a',c',rfl⟩:=own_sliceB h2
 exact ⟨a',c',w',hr,h2,(hb1.mono hbase).grown h3.1 (by simp;omega) (fun k hk=>(hown.lt k hk).1),(World.grownBy_alloc w _ _).trans h3.1,h3.2.imp id (Or.imp id fun ⟨g,e,hg⟩=>⟨g,e,by simp at hg;omega⟩)⟩
theorem appB {w:World} {base:Nat} {a:Option Addr} {c n:Nat} {xs:List Nat} (b:Nat) (hn:xs.length=n) (hown:w.ownsRow base 5 1 (.slice a n c) n (bCells xs)) (hbase:base≤w.heap.size) (hl:n≤17592186044414) :
  ∃ a' c' w',(∀ ty,(Builtin.append_ #[59,59] ty #[.slice a n c,.slice (some ⟨w.heap.size,0,none⟩) 1 1]).run Tryz.prog (w.alloc (.cells #[.int .u8 (b:Nat)] 5))=.ok (.slice a' (n+1) c') w') ∧
   w'.ownsRow base 5 1 (.slice a' (n+1) c') (n+1) (bCells (xs++[b]))∧Below base w w':=by
 obtain ⟨a',c',w',h1,h2,h3,_⟩:=appB2 b hn hown hbase hl
 exact ⟨a',c',w',h1,h2,h3⟩
theorem own_bat {w:World} {base n:Nat} {a:Option Addr} {c:Nat} {xs:List Nat} (hn:xs.length=n) (h:w.ownsRow base 5 1 (.slice a n c) n (bCells xs)) (hl:n≤17592186044416) (hlt:∀ x∈xs,x<256):BAt w a xs:=by
 refine ⟨?_,hlt,by unfold maxLen;omega⟩
 ·rcases h.2 with ⟨h1,h2⟩|⟨g,cap,cur,h1,_⟩
  ·exact .inl (List.eq_nil_of_length_eq_zero (by omega))
  ·cases h1
   refine .inr ⟨g,0,rfl,(h.lt g rfl).2,fun i hi=>?_⟩
   have:=h.cells (g:=g) rfl i (.int .u8 (xs[i]?.getD 0:Nat)) (by unfold bCells;rw [List.getElem?_map,List.getElem?_eq_getElem hi];simp)
   rw [K.addr0] at this
   rw [Nat.zero_add];exact this

theorem low8 {u:Nat} (h:u<128):IntKind.u8.wrap (u:Int)=(u:Int):=by rw [IntKind.wrap_u8];omega

inductive PV where
 | num (n:Int)
 | key (x:Nat)
 | raw (a:Option Addr) (c:Nat) (l:List Nat)
 | flag (b:Bool)
def PV.enc:PV→List Value
 | .num n=>[.int .i64 1,.int .i64 n,.float .f64 0,.slice none 0 0,.bool false]
 | .key x=>[.int .i64 2,.int .i64 0,.float .f64 x,.slice none 0 0,.bool false]
 | .raw a c l=>[.int .i64 3,.int .i64 0,.float .f64 0,.slice a l.length c,.bool false]
 | .flag b=>[.int .i64 4,.int .i64 0,.float .f64 0,.slice none 0 0,.bool b]
def PV.bytes:PV→List Nat
 | .num n=>numB n
 | .key x=>keyB (codeN x)
 | .raw _ _ l=>numB l.length++l
 | .flag b=>[if b=true then 1 else 0]
theorem PV.enc_len (v:PV):v.enc.length=5:=by cases v <;> rfl
theorem PV.enc_one (v:PV):∀ u∈v.enc,u.oneCell'=true:=by
 intro u hu
 cases v <;> simp [PV.enc] at hu <;> rcases hu with rfl|rfl|rfl|rfl|rfl <;> rfl
def pvCells (l:List PV):List Value:=l.flatMap PV.enc
theorem numB_len {n:Int} (h:NumD n):(numB n).length≤10:=by have:=zig_lt h.1 h.2;exact vlq_len 9 (zig n) (by omega)
def packB (l:List PV):List Nat:=l.flatMap PV.bytes

end Go.Proofs.YtdeeoddacnealaaGreat.P