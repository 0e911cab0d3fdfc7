/- Several texts as one: PB PA PP. -/
import Derived.Test.YtdeeoddacnealaaGreatMNK
import Derived.Test.YtdeeoddacnealaaGreatMCH
import Derived.Test.YtdeeoddacnealaaGreatMNC
set_option linter.unusedVariables false
namespace Go.Proofs.YtdeeoddacnealaaGreat.P
open Fl

structure Good {α:Type} (p:List Nat→Option (α×List Nat)) (e:α→List Nat) (D:α→Prop):Prop where
 fwd:∀ a r,D a→p (e a++r)=some (a,r)
 bwd:∀ b a r,p b=some (a,r)→(∀ x∈b,x<256)→b=e a++r∧D a

def vlq (u:Nat):List Nat:=if h:u<128 then [u] else (u % 128+128) :: vlq (u / 128)
termination_by u
decreasing_by omega
theorem vlq_lt {u:Nat} (h:u<128):vlq u=[u]:=by rw [vlq,dif_pos h]
theorem vlq_ge {u:Nat} (h:¬u<128):vlq u=(u % 128+128) :: vlq (u / 128):=by rw [vlq,dif_neg h]
theorem vlq_byte (u:Nat):∀ x∈vlq u,x<256:=by
 induction u using vlq.induct with
 | case1 u h=>rw [vlq_lt h];intro x hx;rw [List.mem_singleton.1 hx];omega
 | case2 u h ih =>
  rw [vlq_ge h];intro x hx
  rcases List.mem_cons.1 hx with rfl|hx
  ·omega
  ·exact ih x hx
theorem vlq_len:∀ (k u:Nat),u<128 ^ (k+1)→(vlq u).length≤k+1
 | 0,u,h=>by rw [vlq_lt (by simpa using h)];simp
 | k+1,u,h=>by
  by_cases hu:u<128
  ·rw [vlq_lt hu];simp
  ·rw [vlq_ge hu]
   have:=vlq_len k (u / 128) (by rw [Nat.pow_succ] at h;omega)
   simp;omega
def getV:Nat→Nat→List Nat→Option (Nat×List Nat)
 | _,_,[]=>none
 | i,u,c :: r=>if (i=9∧1<c)∨(0<i∧c=0) then none else if c<128 then some (u+c * 128 ^ i,r) else getV (i+1) (u+c % 128 * 128 ^ i) r
theorem getV_fwd:∀ (k i u v:Nat) (r:List Nat),i+k=9→v<2 * 128 ^ k→(0<i→0<v)→getV i u (vlq v++r)=some (u+v * 128 ^ i,r)
 | 0,i,u,v,r,hi,hv,h0=>by
  rw [vlq_lt (by simp at hv;omega),List.singleton_append,getV,if_neg (by simp at hv;omega),if_pos (by simp at hv;omega)]
 | k+1,i,u,v,r,hi,hv,h0=>by
  by_cases hs:v<128
  ·rw [vlq_lt hs,List.singleton_append,getV,if_neg (by omega),if_pos hs]
  ·rw [vlq_ge hs,List.cons_append,getV,if_neg (by omega),if_neg (by omega),getV_fwd k (i+1) _ (v / 128) r (by omega) (by rw [Nat.pow_succ] at hv;omega) (by omega)]
   have e1:(v % 128+128) % 128=v % 128:=by omega
   have e2:v % 128 * 128 ^ i+v / 128 * 128 ^ (i+1)=v * 128 ^ i:=by
    rw [Nat.pow_succ,Nat.mul_comm (128 ^ i) 128,←Nat.mul_assoc,←Nat.add_mul]
    congr 1;omega
   rw [e1,Nat.add_assoc,e2]
theorem getV_bwd:∀ (b:List Nat) (k i u:Nat) (x:Nat) (r:List Nat),i+k=9→(∀ c∈b,c<256)→getV i u b=some (x,r)→∃ v,x=u+v * 128 ^ i∧b=vlq v++r∧v<2 * 128 ^ k∧(0<i→0<v)
 | [],k,i,u,x,r,_,_,h=>by simp [getV] at h
 | c :: b,k,i,u,x,r,hi,hb,h=>by
  have hc:=hb c (List.mem_cons_self ..)
  rw [getV] at h
  by_cases h1:(i=9∧1<c)∨(0<i∧c=0)
  ·rw [if_pos h1] at h;cases h
  ·rw [if_neg h1] at h
   by_cases h2:c<128
   ·rw [if_pos h2] at h
    cases h
    refine ⟨c,rfl,by rw [vlq_lt h2];rfl,?_,by omega⟩
    rcases Nat.eq_zero_or_pos k with rfl|hk
    ·simp;omega
    ·obtain ⟨j,rfl⟩:∃ j,k=j+1:=⟨k-1,by omega⟩
     have:=Nat.pow_pos (n:=j) (show 0<128 by omega)
     rw [Nat.pow_succ];omega
   ·rw [if_neg h2] at h
    rcases Nat.eq_zero_or_pos k with rfl|hk
    ·omega
    ·obtain ⟨j,rfl⟩:∃ j,k=j+1:=⟨k-1,by omega⟩
     obtain ⟨v,rfl,rfl,hv,hp⟩:=getV_bwd b j (i+1) _ x r (by omega) (fun y hy=>hb y (List.mem_cons_of_mem _ hy)) h
     have hp:=hp (by omega)
     have hd:(c % 128+128 * v) / 128=v:=by omega
     have hm:(c % 128+128 * v) % 128=c % 128:=by omega
     refine ⟨c % 128+128 * v,?_,?_,by rw [Nat.pow_succ];omega,by omega⟩
     ·rw [Nat.add_assoc,Nat.pow_succ,Nat.mul_comm (128 ^ i) 128,←Nat.mul_assoc,←Nat.add_mul,Nat.mul_comm v 128]
     ·rw [vlq_ge (u:=c % 128+128 * v) (by omega),hd,hm,show c % 128+128=c by omega];rfl

def zig (n:Int):Nat:=if 0≤n then 2 * n.toNat else 2 * (-n-1).toNat+1
def zag (u:Nat):Int:=if u % 2=0 then (u / 2:Nat) else -((u / 2:Nat):Int)-1
theorem zag_zig (n:Int):zag (zig n)=n:=by
 unfold zag zig
 by_cases h:0≤n
 ·rw [if_pos h,if_pos (by omega)];omega
 ·rw [if_neg h,if_neg (by omega)];omega
theorem zig_zag (u:Nat):zig (zag u)=u:=by
 unfold zag zig
 by_cases h:u % 2=0
 ·rw [if_pos h,if_pos (by omega)];omega
 ·rw [if_neg h,if_neg (by omega)];omega
theorem zig_lt {n:Int} (h1:-9223372036854775808≤n) (h2:n<9223372036854775808):zig n<18446744073709551616:=by unfold zig;split <;> omega
theorem zag_lt {u:Nat} (h:u<18446744073709551616):-9223372036854775808≤zag u∧zag u<9223372036854775808:=by unfold zag;split <;> omega
def numB (n:Int):List Nat:=vlq (zig n)
def NumD (n:Int):Prop:=-9223372036854775808≤n∧n<9223372036854775808
def getNum (b:List Nat):Option (Int×List Nat):=(getV 0 0 b).map fun p=>(zag p.1,p.2)
theorem num_good:Good getNum numB NumD where
 fwd n r h:=by
  unfold getNum numB
  rw [getV_fwd 9 0 0 (zig n) r rfl (by have:=zig_lt h.1 h.2;omega) (fun h=>absurd h (by omega))]
  simp [zag_zig]
 bwd b n r h hb:=by
  unfold getNum at h
  cases hv:getV 0 0 b with
  | none=>rw [hv] at h;cases h
  | some p =>
   obtain ⟨x,r'⟩:=p
   rw [hv] at h
   simp only [Option.map_some,Option.some.injEq,Prod.mk.injEq] at h
   obtain ⟨rfl,rfl⟩:=h
   obtain ⟨v,rfl,rfl,hlt,_⟩:=getV_bwd b 9 0 0 _ _ rfl hb hv
   have e:0+v * 128 ^ 0=v:=by simp
   rw [e]
   refine ⟨by unfold numB;rw [zig_zag],zag_lt (by omega)⟩
def keyB (u:Nat):List Nat:=[u / 72057594037927936 % 256,u / 281474976710656 % 256,u / 1099511627776 % 256,u / 4294967296 % 256,u / 16777216 % 256,u / 65536 % 256,u / 256 % 256,u % 256]
def unkeyB:List Nat→Nat:=List.foldl (fun u c=>u * 256+c) 0
theorem unkeyB_keyB {u:Nat} (h:u<18446744073709551616):unkeyB (keyB u)=u:=by
 unfold unkeyB keyB
 simp only [List.foldl_cons,List.foldl_nil]
 omega
theorem keyB_unkeyB {l:List Nat} (h:l.length=8) (hb:∀ c∈l,c<256):keyB (unkeyB l)=l∧unkeyB l<18446744073709551616:=by
 match l,h with
 | [a,b,c,d,e,f,g,i],_ =>
  have h1:=hb a (by simp);have h2:=hb b (by simp);have h3:=hb c (by simp);have h4:=hb d (by simp)
  have h5:=hb e (by simp);have h6:=hb f (by simp);have h7:=hb g (by simp);have h8:=hb i (by simp)
  unfold unkeyB keyB
  simp only [List.foldl_cons,List.foldl_nil,List.cons.injEq,and_true]
  omega
def codeN (b:Nat):Nat:=(codeOf b).toNat
def ofN (u:Nat):Nat:=if u=0 then nanBits else if top≤u then u-top else 18446744073709551615-u
def okN (u:Nat):Bool:=decide (codeN (ofN u)=u)
theorem codeOf_nn (b:Nat):0≤codeOf b:=by
 unfold codeOf;split
 ·exact Int.le_refl _
 ·have:=kcode_lo (kof b);omega
theorem codeN_int (b:Nat):((codeN b:Nat):Int)=codeOf b:=by unfold codeN;have:=codeOf_nn b;omega
theorem codeN_lt (b:Nat):codeN b<18446744073709551616:=by
 unfold codeN codeOf;split
 ·decide
 ·have:=kcode_hi (kof b);omega
theorem ofN_codeN (b:Nat):ofN (codeN b)=cbits b:=by
 unfold ofN codeN codeOf
 by_cases hn:isNaN b=true
 ·rw [if_pos hn,cbits_nan hn];rfl
 ·have hn':isNaN b=false:=by simpa using hn
  rw [if_neg hn,cbits_num hn']
  have h1:=kcode_lo (kof b);have h2:=kcode_hi (kof b)
  have h3:=(kof b).lo;have h4:=(kof b).hi
  unfold inf at h3 h4
  unfold kcode Key.bits top
  by_cases hp:0≤(kof b).v
  ·simp only [if_pos hp]
   rw [if_neg (by omega),if_pos (by omega)];omega
  ·simp only [if_neg hp]
   rw [if_neg (by omega),if_neg (by omega)];omega
theorem okN_codeN (b:Nat):okN (codeN b)=true:=by
 unfold okN
 rw [decide_eq_true_eq,ofN_codeN]
 unfold codeN
 rw [K.codeOf_cbits]
theorem okN_cbits {u:Nat} (h:okN u=true):cbits (ofN u)=ofN u:=by
 unfold okN at h
 rw [decide_eq_true_eq] at h
 rw [←ofN_codeN,h]
def KeyD (x:Nat):Prop:=cbits x=x
def getKey (b:List Nat):Option (Nat×List Nat):=if b.length<8 then none else if okN (unkeyB (b.take 8)) then some (ofN (unkeyB (b.take 8)),b.drop 8) else none
theorem keyB_len (u:Nat):(keyB u).length=8:=rfl
theorem key_good:Good getKey (fun x=>keyB (codeN x)) KeyD where
 fwd x r h:=by
  unfold getKey
  rw [if_neg (by rw [List.length_append,keyB_len];omega),List.take_append_of_le_length (by rw [keyB_len];omega),List.take_of_length_le (by rw [keyB_len];omega),unkeyB_keyB (codeN_lt x),if_pos (okN_codeN x),ofN_codeN,h,
   List.drop_append_of_le_length (by rw [keyB_len];omega),List.drop_of_length_le (by rw [keyB_len];omega)]
  rfl
 bwd b x r h hb:=by
  unfold getKey at h
  by_cases h8:b.length<8
  ·rw [if_pos h8] at h;cases h
  ·rw [if_neg h8] at h
   obtain ⟨h1,h2⟩:=keyB_unkeyB (l:=b.take 8) (by rw [List.length_take];omega) (fun c hc=>hb c (List.mem_of_mem_take hc))
   by_cases hk:okN (unkeyB (b.take 8))=true
   ·rw [if_pos hk] at h
    cases h
    refine ⟨?_,okN_cbits hk⟩
    have:codeN (ofN (unkeyB (b.take 8)))=unkeyB (b.take 8):=by unfold okN at hk;simpa using hk
    rw [this,h1,List.take_append_drop]
   ·rw [if_neg hk] at h;cases h

def getMany {α:Type} (p:List Nat→Option (α×List Nat)):Nat→List Nat→Option (List α×List Nat)
 | 0,b=>some ([],b)
 | n+1,b=>match getMany p n b with
  | none=>none
  | some (xs,r)=>match p r with
   | none=>none
   | some (x,r')=>some (xs++[x],r')
theorem many_fwd {α:Type} {p:List Nat→Option (α×List Nat)} {e:α→List Nat} {D:α→Prop} (g:Good p e D):∀ (n:Nat) (xs:List α) (r:List Nat),xs.length=n→(∀ x∈xs,D x)→getMany p n (xs.flatMap e++r)=some (xs,r)
 | 0,xs,r,hn,_=>by rw [List.eq_nil_of_length_eq_zero hn];rfl
 | n+1,xs,r,hn,hd=>by
  have hne:xs≠[]:=by intro h;rw [h] at hn;cases hn
  have hx:=List.dropLast_concat_getLast hne
  rw [←hx] at hd ⊢
  generalize xs.getLast hne=y at *
  generalize hys:xs.dropLast=ys at *
  have hl:ys.length=n:=by rw [←hys,List.length_dropLast];omega
  rw [getMany,List.flatMap_append,List.append_assoc,many_fwd g n ys _ hl (fun x h=>hd x (List.mem_append_left _ h))]
  simp only [List.flatMap_cons,List.flatMap_nil,List.append_nil]
  rw [g.fwd y r (hd y (by simp))]
theorem many_bwd {α:Type} {p:List Nat→Option (α×List Nat)} {e:α→List Nat} {D:α→Prop} (g:Good p e D):∀ (n:Nat) (b:List Nat) (xs:List α) (r:List Nat),getMany p n b=some (xs,r)→(∀ x∈b,x<256)→b=xs.flatMap e++r∧xs.length=n∧∀ x∈xs,D x
 | 0,b,xs,r,h,_=>by cases h;exact ⟨rfl,rfl,fun x hx=>by cases hx⟩
 | n+1,b,xs,r,h,hb=>by
  rw [getMany] at h
  cases h1:getMany p n b with
  | none=>rw [h1] at h;cases h
  | some q =>
   obtain ⟨ys,s⟩:=q
   rw [h1] at h
   simp only at h
   obtain ⟨e1,hl,hd⟩:=many_bwd g n b ys s h1 hb
   cases h2:p s with
   | none=>rw [h2] at h;cases h
   | some q2 =>
    obtain ⟨y,t⟩:=q2
    rw [h2] at h
    cases h
    obtain ⟨e2,hy⟩:=g.bwd s y _ h2 (fun x hx=>hb x (by rw [e1];exact List.mem_append_right _ hx))
    refine ⟨by rw [e1,e2];simp,by simp [hl],fun x hx=>?_⟩
    rcases List.mem_append.1 hx with hx|hx
    ·exact hd x hx
    ·rw [List.mem_singleton.1 hx];exact hy
def both {α β:Type} (p:List Nat→Option (α×List Nat)) (q:List Nat→Option (β×List Nat)) (b:List Nat):Option ((α×β)×List Nat):=match p b with
 | none=>none
 | some (x,r)=>match q r with
  | none=>none
  | some (y,s)=>some ((x,y),s)
theorem both_good {α β:Type} {p:List Nat→Option (α×List Nat)} {q:List Nat→Option (β×List Nat)} {e:α→List Nat} {f:β→List Nat} {D:α→Prop} {E:β→Prop} (g:Good p e D) (h:Good q f E):Good (both p q) (fun x=>e x.1++f x.2) (fun x=>D x.1∧E x.2) where
 fwd x r hx:=by
  unfold both
  rw [List.append_assoc,g.fwd _ _ hx.1]
  simp only
  rw [h.fwd _ _ hx.2]
 bwd b x r hx hb:=by
  unfold both at hx
  cases h1:p b with
  | none=>rw [h1] at hx;cases hx
  | some q1 =>
   obtain ⟨y,s⟩:=q1
   rw [h1] at hx
   simp only at hx
   obtain ⟨e1,d1⟩:=g.bwd _ _ _ h1 hb
   cases h2:q s with
   | none=>rw [h2] at hx;cases hx
   | some q2 =>
    obtain ⟨z,t⟩:=q2
    rw [h2] at hx
    cases hx
    obtain ⟨e2,d2⟩:=h.bwd s z _ h2 (fun x hx=>hb x (by rw [e1];exact List.mem_append_right _ hx))
    exact ⟨by rw [e1,e2,List.append_assoc],d1,d2⟩
def getCount (most:Nat) (b:List Nat):Option (Nat×List Nat):=match getNum b with
 | none=>none
 | some (n,r)=>if n<0∨(most:Int)<n then none else some (n.toNat,r)
def getRow {α:Type} (most:Nat) (p:List Nat→Option (α×List Nat)) (b:List Nat):Option (List α×List Nat):=match getCount most b with
 | none=>none
 | some (n,r)=>getMany p n r
theorem row_good {α:Type} {p:List Nat→Option (α×List Nat)} {e:α→List Nat} {D:α→Prop} (most:Nat) (hm:most<9223372036854775808) (g:Good p e D):Good (getRow most p) (fun xs=>numB xs.length++xs.flatMap e) (fun xs=>xs.length≤most∧∀ x∈xs,D x) where
 fwd xs r hx:=by
  unfold getRow getCount
  rw [List.append_assoc,num_good.fwd _ _ ⟨by omega,by omega⟩]
  simp only
  rw [if_neg (by omega)]
  exact many_fwd g _ xs r (by simp) hx.2
 bwd b xs r hx hb:=by
  unfold getRow getCount at hx
  cases h1:getNum b with
  | none=>rw [h1] at hx;cases hx
  | some q1 =>
   obtain ⟨n,s⟩:=q1
   rw [h1] at hx
   simp only at hx
   obtain ⟨e1,d1⟩:=num_good.bwd _ _ _ h1 hb
   by_cases hc:n<0∨(most:Int)<n
   ·rw [if_pos hc] at hx;cases hx
   ·rw [if_neg hc] at hx
    simp only at hx
    obtain ⟨e2,hl,hd⟩:=many_bwd g _ _ _ _ hx (fun x hx=>hb x (by rw [e1];exact List.mem_append_right _ hx))
    have hn:(xs.length:Int)=n:=by omega
    exact ⟨by rw [e1,e2,hn,List.append_assoc],by omega,hd⟩
open Go.RowKit Fl

def bCells (l:List Nat):List Value:=l.map fun b=>.int .u8 (b:Nat)
theorem bCells_len (l:List Nat):(bCells l).length=l.length:=List.length_map _
theorem byteInfo:(Tryz.prog.info? 5).map (fun i=>(i.zero,i.size,i.bytes))=some (some (.int .u8 0),1,1):=by kernel_rfl
theorem grew_trans {a b c:World} {u v x:Value} (h:Grew a b u v) (k:Grew b c v x):Grew a c u x:=by
 refine ⟨⟨k.1.os.trans h.1.os,k.1.tape.trans h.1.tape,k.1.output.trans h.1.output,Nat.le_trans h.1.size k.1.size,fun j hj hr=>(k.1.block j (Nat.lt_of_lt_of_le hj h.1.size) fun e=>?_).trans (h.1.block j hj hr)⟩,?_⟩
 ·rcases h.2 with h1|h1|⟨g,h1,h2⟩
  ·exact hr (e.trans h1)
  ·rw [h1] at e;cases e
  ·rw [h1] at e;cases e;omega
 ·rcases k.2 with k1|k1|⟨g,k1,k2⟩
  ·rw [k1];exact h.2
  ·exact .inr (.inl k1)
  ·exact .inr (.inr ⟨g,k1,Nat.le_trans h.1.size k2⟩)
theorem grew_refl (w:World) (v:Value):Grew w w v v:=⟨⟨rfl,rfl,rfl,Nat.le_refl _,fun _ _ _=>rfl⟩,.inl rfl⟩
theorem grew_block {w w':World} {u v:Value} (h:Grew w w' u v) {k:Nat} (hk:k<w.heap.size) (hne:u.ownBlock≠some k):w'.heap[k]? = w.heap[k]?:=h.1.block k hk fun e=>hne e.symm
structure BAt (w:World) (a:Option Addr) (bs:List Nat):Prop where
 row:bs=[]∨∃ b o,a=some ⟨b,o,none⟩∧b<w.heap.size∧∀ i,i<bs.length→w.cell? ⟨b,o+i,none⟩=some (.int .u8 (bs[i]?.getD 0:Nat))
 lt:∀ x∈bs,x<256
 len:bs.length≤maxLen
theorem own_sliceB {w:World} {B n:Nat} {v:Value} {cs:List Value} (h:w.ownsRow B 5 1 v n cs):∃ va vc,v=.slice va n vc:=by
 rcases h.2 with ⟨rfl,h0⟩|⟨g,cap,cur,rfl,_⟩
 ·exact ⟨none,0,by rw [h0]⟩
 ·exact ⟨_,_,rfl⟩
theorem appB2 {w:World} {base:Nat} {a:Option Addr} {c n:Nat} {xs:List Nat} (b:Nat) (hn:xs.length=n) (hown:w.ownsRow base 5 1 (.slice a n c) n (bCells xs)) (hbase:base≤w.heap.size) (hl:n≤17592186044414) :
  ∃ a' c' w',(∀ ty,(Builtin.append_ #[59,59] ty #[.slice a n c,.slice (some ⟨w.heap.size,0,none⟩) 1 1]).run Tryz.prog (w.alloc (.cells #[.int .u8 (b:Nat)] 5))=.ok (.slice a' (n+1) c') w') ∧
   w'.ownsRow base 5 1 (.slice a' (n+1) c') (n+1) (bCells (xs++[b]))∧Below base w w'∧Grew w w' (.slice a n c) (.slice a' (n+1) c'):=by
 obtain ⟨i0,hi0,hz0,hzs,hzb⟩:=info_parts byteInfo
 have hb1:Below w.heap.size w (w.alloc (.cells #[.int .u8 (b:Nat)] 5)):=by exact below_auto
 have hown1:=hown.kept (K.grown_of_below hb1) (by cases (Value.slice a n c).ownBlock <;> simp)
 obtain ⟨v',w',hr,h2,h3⟩:=run_append_own2 (P:=Tryz.prog) (w.alloc (.cells #[.int .u8 (b:Nat)] 5)) base 59 5 i0 _ 1 1 Tryz.underlying59 hi0 hz0 hzs hzb rfl (by omega) _ _ _ hown1 ⟨w.heap.size,0,none⟩ 1 1 [.int .u8 (b:Nat)] rfl
  (fun j u hj=>by
   have hrow:(w.alloc (.cells #[.int .u8 (b:Nat)] 5)).heap[w.heap.size]? = some (.cells #[.int .u8 (b:Nat)] 5 (0,0)):=heap_alloc_new w _
   rw [K.addr0,cell_of_row _ _ j _ _ (0,0) hrow]
   rw [←hj];simp) (by intro u hu;rw [List.mem_singleton.1 hu];rfl) (by omega) (by unfold maxLen;omega) (by omega) (by simp;omega)
 have hc:bCells xs++[.int .u8 (b:Nat)]=bCells (xs++[b]):=by simp [bCells]
 rw [hc] at h2
 obtain ⟨a',c',rfl⟩:=own_sliceB h2
 exact ⟨a',c',w',hr,h2,(hb1.mono hbase).grown h3.1 (by simp;omega) (fun k hk=>(hown.lt k hk).1),(World.grownBy_alloc w _ _).trans h3.1,h3.2.imp id (Or.imp id fun ⟨g,e,hg⟩=>⟨g,e,by simp at hg;omega⟩)⟩
theorem appB {w:World} {base:Nat} {a:Option Addr} {c n:Nat} {xs:List Nat} (b:Nat) (hn:xs.length=n) (hown:w.ownsRow base 5 1 (.slice a n c) n (bCells xs)) (hbase:base≤w.heap.size) (hl:n≤17592186044414) :
  ∃ a' c' w',(∀ ty,(Builtin.append_ #[59,59] ty #[.slice a n c,.slice (some ⟨w.heap.size,0,none⟩) 1 1]).run Tryz.prog (w.alloc (.cells #[.int .u8 (b:Nat)] 5))=.ok (.slice a' (n+1) c') w') ∧
   w'.ownsRow base 5 1 (.slice a' (n+1) c') (n+1) (bCells (xs++[b]))∧Below base w w':=by
 obtain ⟨a',c',w',h1,h2,h3,_⟩:=appB2 b hn hown hbase hl
 exact ⟨a',c',w',h1,h2,h3⟩
theorem own_bat {w:World} {base n:Nat} {a:Option Addr} {c:Nat} {xs:List Nat} (hn:xs.length=n) (h:w.ownsRow base 5 1 (.slice a n c) n (bCells xs)) (hl:n≤17592186044416) (hlt:∀ x∈xs,x<256):BAt w a xs:=by
 refine ⟨?_,hlt,by unfold maxLen;omega⟩
 ·rcases h.2 with ⟨h1,h2⟩|⟨g,cap,cur,h1,_⟩
  ·exact .inl (List.eq_nil_of_length_eq_zero (by omega))
  ·cases h1
   refine .inr ⟨g,0,rfl,(h.lt g rfl).2,fun i hi=>?_⟩
   have:=h.cells (g:=g) rfl i (.int .u8 (xs[i]?.getD 0:Nat)) (by unfold bCells;rw [List.getElem?_map,List.getElem?_eq_getElem hi];simp)
   rw [K.addr0] at this
   rw [Nat.zero_add];exact this

set_option maxRecDepth 100000 in
theorem zig_bits {k:Int} (h:NumD k):bits BinOp.xor IntKind.u64 (IntKind.u64.wrap (IntKind.u64.wrap k * 2)) (IntKind.u64.wrap (k / 9223372036854775808))=((zig k:Nat):Int):=by
 have h1:=h.1;have h2:=h.2
 rw [IntKind.wrap_u64,IntKind.wrap_u64,IntKind.wrap_u64]
 by_cases hp:0≤k
 ·have e1:k % 18446744073709551616 * 2 % 18446744073709551616=((2 * k.toNat:Nat):Int):=by omega
  have e2:k / 9223372036854775808 % 18446744073709551616=((0:Nat):Int):=by omega
  rw [e1,e2,u64_xor_nat _ _ (by omega) (by omega),Nat.xor_zero]
  unfold zig;rw [if_pos hp]
 ·have e1:k % 18446744073709551616 * 2 % 18446744073709551616=(((2 * k+18446744073709551616).toNat:Nat):Int):=by omega
  have e2:k / 9223372036854775808 % 18446744073709551616=((18446744073709551615:Nat):Int):=by omega
  have hx:18446744073709551615 ^^^ (2 * k+18446744073709551616).toNat=18446744073709551616-((2 * k+18446744073709551616).toNat+1):=nat_xor_all (b:=(2 * k+18446744073709551616).toNat) (by omega)
  rw [e1,e2,u64_xor_nat _ _ (by omega) (by omega),Nat.xor_comm,hx]
  unfold zig;rw [if_neg hp];omega
theorem or128 (u:Nat):bits BinOp.or IntKind.u8 ((u:Int) % 256) 128=((u % 128+128:Nat):Int):=by
 have hd:∀ x:Fin 256,x.val ||| 128=x.val % 128+128:=by decide +kernel
 have e1:(u:Int) % 256=((u % 256:Nat):Int):=by omega
 rw [e1,show (128:Int)=((128:Nat):Int) from rfl,u8_or_nat _ _ (by omega) (by omega),hd ⟨u % 256,by omega⟩]
 simp only
 omega
theorem low8 {u:Nat} (h:u<128):IntKind.u8.wrap (u:Int)=(u:Int):=by rw [IntKind.wrap_u8];omega
set_option maxRecDepth 100000 in
theorem appendNum_any2 (a:Option Addr) (c n base:Nat) (l:List Nat) (k:Int) (w:World) (hn:l.length=n) (hown:w.ownsRow base 5 1 (.slice a n c) n (bCells l)) (hbase:base≤w.heap.size) (hk:NumD k) (hl:n≤17592186044000) :
  Calls Tryz.prog 139 #[.slice a n c,.int .i64 k] w fun e w'=>∃ a' c',e=.returned (.slice a' (l++numB k).length c')∧w'.ownsRow base 5 1 (.slice a' (l++numB k).length c') (l++numB k).length (bCells (l++numB k))∧Below base w w'∧Grew w w' (.slice a n c) (.slice a' (l++numB k).length c'):=by
 have HO:=hid hown
 have hz:=zig_bits hk
 have hzl:=zig_lt hk.1 hk.2
 have HE:=hid (rfl:l++numB k=l++numB k)
 have hlen:(l++numB k).length≤n+10:=by rw [List.length_append,hn];have:=vlq_len 9 (zig k) (by omega);unfold numB;omega
 have HL:=hid hlen
 have hz0:zig k=zig k:=rfl
 obtain ⟨R,hR⟩:∃ R,R=l++numB k:=⟨_,rfl⟩
 rw [←hR] at HL ⊢
 unfold numB at hR
 generalize hu0:zig k=u0 at *
 have HR:=hid hR.symm
 clear hown hlen HE hR hu0 hz0
 go_enter Tryz.func139,Tryz.ntmps139
 go_upto_region 2 with fail
 try rw [hz]
 clear hz hk
 go_loopw [0,5] (fun t0 t5 wr=>∃ (L:List Nat) (m u:Nat) (a':Option Addr) (c':Nat),t0=.slice a' m c'∧t5=.int .u64 (u:Nat)∧u<18446744073709551616∧Hid (L.length=m)∧Hid (L++vlq u=R)∧Hid (wr.ownsRow base 5 1 (.slice a' m c') m (bCells L))∧Hid (Grew w wr (.slice a n c) (.slice a' m c'))∧Below base w wr) (fun t0 t5 wr=>(intOf t5).toNat)
 case atStart=>exact ⟨l,n,u0,a,c,rfl,rfl,hzl,hid hn,HR,HO,hid (grew_refl _ _),Below.refl _ _⟩
 case round =>
  obtain ⟨L,m,u,a',c',rfl,rfl,hu,HM,HQ,HW,HG,hb⟩:=hrel
  have hml:m<17592186044014:=by
   have h1:=congrArg List.length HQ.out
   have h2:0<(vlq u).length:=by by_cases h:u<128;rw [vlq_lt h];simp;rw [vlq_ge h];simp
   have h3:=HL.out;have h4:=HM.out
   rw [List.length_append] at h1
   omega
  have hz2:=hb.size
  have hbw:base≤wr.heap.size:=by omega
  by_cases hlt:u<128
  ·have hlt':((u:Nat):Int)<128:=by omega
   have e8:=low8 hlt
   obtain ⟨a2,c2,w2,hr,hown2,hb2,hg2⟩:=appB2 u HM.out HW.out hbw (by omega)
   go_upto_region 5 with fail
   go_wp2_with (at_builtin;refine Lib.wpList_append_run _ rfl _ _ _ _ rfl _ _ rfl rfl _ _ (hr _) ?_)
   go_ret
   have e:R=L++[u]:=by rw [←HQ.out,vlq_lt hlt]
   rw [e,List.length_append,HM.out]
   exact ⟨a2,c2,rfl,hown2,hb.trans hb2,grew_trans HG.out hg2⟩
  ·have hlt':¬((u:Nat):Int)<128:=by omega
   have e8:=or128 u
   obtain ⟨a2,c2,w2,hr,hown2,hb2,hg2⟩:=appB2 (u % 128+128) HM.out HW.out hbw (by omega)
   have HO2:=hid hown2
   have HG2:=hid (grew_trans HG.out hg2)
   clear hown2 hg2
   go_upto_region 4 with fail
   go_wp2_with (at_builtin;refine Lib.wpList_append_run _ rfl _ _ _ _ rfl _ _ rfl rfl _ _ (hr _) ?_)
   go_roundw
   case rel=>exact ⟨L++[u % 128+128],m+1,u / 128,a2,c2,rfl,by go_num,by omega,hid (by rw [List.length_append,HM.out];rfl),hid (by rw [List.append_assoc,List.singleton_append,←vlq_ge hlt];exact HQ.out),HO2,HG2,hb.trans hb2⟩
   case measure=>simp [intOf];omega
theorem appendNum_any (a:Option Addr) (c n base:Nat) (l:List Nat) (k:Int) (w:World) (hn:l.length=n) (hown:w.ownsRow base 5 1 (.slice a n c) n (bCells l)) (hbase:base≤w.heap.size) (hk:NumD k) (hl:n≤17592186044000) :
  Calls Tryz.prog 139 #[.slice a n c,.int .i64 k] w fun e w'=>∃ a' c',e=.returned (.slice a' (l++numB k).length c')∧w'.ownsRow base 5 1 (.slice a' (l++numB k).length c') (l++numB k).length (bCells (l++numB k))∧Below base w w' :=
 (appendNum_any2 a c n base l k w hn hown hbase hk hl).mono fun _ _ ⟨a',c',h1,h2,h3,_⟩=>⟨a',c',h1,h2,h3⟩

inductive PV where
 | num (n:Int)
 | key (x:Nat)
 | raw (a:Option Addr) (c:Nat) (l:List Nat)
 | flag (b:Bool)
def PV.enc:PV→List Value
 | .num n=>[.int .i64 1,.int .i64 n,.float .f64 0,.slice none 0 0,.bool false]
 | .key x=>[.int .i64 2,.int .i64 0,.float .f64 x,.slice none 0 0,.bool false]
 | .raw a c l=>[.int .i64 3,.int .i64 0,.float .f64 0,.slice a l.length c,.bool false]
 | .flag b=>[.int .i64 4,.int .i64 0,.float .f64 0,.slice none 0 0,.bool b]
def PV.ok:PV→Prop
 | .num n=>NumD n
 | .key x=>x<2 ^ 64
 | .raw _ _ l=>(∀ x∈l,x<256)∧l.length≤4096∧0<l.length
 | .flag _=>True
def BL (w:World) (a:Option Addr) (l:List Nat):Prop:=∃ (g o:Nat) (cur:Array Value) (fr:Nat×Nat),a=some ⟨g,o,none⟩∧w.heap[g]? = some (.cells cur 5 fr)∧∀ i,i<l.length→cur[o+i]? = some (.int .u8 (l[i]?.getD 0:Nat))
theorem BL.below {w w':World} {a:Option Addr} {l:List Nat} (h:BL w a l) (hb:Below w.heap.size w w'):BL w' a l:=by
 obtain ⟨g,o,cur,fr,h1,h2,h3⟩:=h
 exact ⟨g,o,cur,fr,h1,(hb.block g (Array.getElem?_eq_some_iff.1 h2).1).trans h2,h3⟩
theorem BL.cell {w:World} {g o:Nat} {l:List Nat} (h:BL w (some ⟨g,o,none⟩) l) {i:Nat} (hi:i<l.length):w.cell? ⟨g,o+i,none⟩=some (.int .u8 (l[i]?.getD 0:Nat)):=by
 obtain ⟨g',o',cur,fr,h1,h2,h3⟩:=h
 cases h1
 rw [cell_of_row w _ _ _ _ fr h2]
 exact h3 i hi
theorem BL.of_own {w:World} {base:Nat} {a:Option Addr} {c:Nat} {l:List Nat} (h:w.ownsRow base 5 1 (.slice a l.length c) l.length (bCells l)) (h0:0<l.length):BL w a l:=by
 rcases h.2 with ⟨_,h2⟩|⟨g,cap,cur,h1,_,h3,h4,_,h6,h7⟩
 ·omega
 ·cases h1
  refine ⟨g,0,cur,(0,0),rfl,h3,fun i hi=>?_⟩
  have:=h.cells (g:=g) rfl i (.int .u8 (l[i]?.getD 0:Nat)) (by unfold bCells;rw [List.getElem?_map,List.getElem?_eq_getElem hi];simp)
  rw [K.addr0,cell_of_row w _ _ _ _ (0,0) h3] at this
  rw [Nat.zero_add];exact this
def PV.lies (w:World):PV→Prop
 | .raw a _ l=>BL w a l
 | _=>True
theorem PV.lies_below {w w':World} {v:PV} (h:v.lies w) (hb:Below w.heap.size w w'):v.lies w':=by
 cases v with
 | raw a c l=>exact BL.below h hb
 | _=>trivial
def PV.bytes:PV→List Nat
 | .num n=>numB n
 | .key x=>keyB (codeN x)
 | .raw _ _ l=>numB l.length++l
 | .flag b=>[if b=true then 1 else 0]
theorem PV.enc_len (v:PV):v.enc.length=5:=by cases v <;> rfl
theorem PV.enc_one (v:PV):∀ u∈v.enc,u.oneCell'=true:=by
 intro u hu
 cases v <;> simp [PV.enc] at hu <;> rcases hu with rfl|rfl|rfl|rfl|rfl <;> rfl
def pvCells (l:List PV):List Value:=l.flatMap PV.enc
theorem pvCells_len (l:List PV):(pvCells l).length=l.length * 5:=flat_len PV.enc_len l
theorem numB_len {n:Int} (h:NumD n):(numB n).length≤10:=by have:=zig_lt h.1 h.2;exact vlq_len 9 (zig n) (by omega)
theorem PV.bytes_len {v:PV} (h:v.ok):v.bytes.length≤4106:=by
 cases v with
 | num n=>exact Nat.le_trans (numB_len h) (by decide)
 | key x=>unfold PV.bytes;rw [keyB_len];omega
 | raw a c l =>
  have h1:l.length≤4096:=h.2.1
  have:=numB_len (n:=(l.length:Int)) ⟨by omega,by omega⟩
  unfold PV.bytes;rw [List.length_append];omega
 | flag b=>unfold PV.bytes;simp
def packB (l:List PV):List Nat:=l.flatMap PV.bytes
theorem packB_take {l:List PV} {i:Nat} {v:PV} (h:l[i]? = some v):packB (l.take (i+1))=packB (l.take i)++v.bytes:=by
 unfold packB
 rw [List.take_add_one,h,List.flatMap_append];simp
theorem packB_len {l:List PV} (h:∀ v∈l,v.ok):(packB l).length≤4106 * l.length:=by
 induction l with
 | nil=>simp [packB]
 | cons v l ih =>
  have h1:=PV.bytes_len (h v (by simp))
  have h2:=ih fun u hu=>h u (List.mem_cons_of_mem _ hu)
  unfold packB at *
  rw [List.flatMap_cons,List.length_append,List.length_cons];omega
def VAt (w:World) (a:Option Addr) (vs:List PV):Prop:=vs=[]∨∃ b,a=some ⟨b,0,none⟩∧b<w.heap.size∧∀ (i t:Nat) (v:PV) (u:Value),vs[i]? = some v→v.enc[t]? = some u→w.cell? ⟨b,i * 5+t,none⟩=some u
theorem appRow {w:World} {base n m:Nat} {a ra:Option Addr} {c rc:Nat} {xs rl:List Nat} (hn:xs.length=n) (hm:rl.length=m) (h0:0<m) (hown:w.ownsRow base 5 1 (.slice a n c) n (bCells xs)) (hr:BL w ra rl) (hbase:base≤w.heap.size) (hl:n≤17592186040000) (hl2:m≤4096) :
  ∃ a' c' w',(∀ ty,(Builtin.append_ #[59,59] ty #[.slice a n c,.slice ra m rc]).run Tryz.prog w=.ok (.slice a' (n+m) c') w') ∧
   w'.ownsRow base 5 1 (.slice a' (n+m) c') (n+m) (bCells (xs++rl))∧Below base w w':=by
 obtain ⟨i0,hi0,hz0,hzs,hzb⟩:=info_parts byteInfo
 obtain ⟨g,o,rfl⟩:∃ g o,ra=some ⟨g,o,none⟩:=by obtain ⟨g,o,_,_,h1,_⟩:=hr;exact ⟨g,o,h1⟩
 obtain ⟨v',w',hr',h2,h3⟩:=run_append_own2 (P:=Tryz.prog) w base 59 5 i0 _ 1 1 Tryz.underlying59 hi0 hz0 hzs hzb rfl (by omega) _ _ _ hown ⟨g,o,none⟩ m rc (bCells rl) (by rw [bCells_len,hm,Nat.mul_one])
  (fun j u hj=>by
   have hj2:j<rl.length:=by simpa [bCells] using (List.getElem?_eq_some_iff.1 hj).1
   have h5:=hr.cell hj2
   have h6:u=.int .u8 (rl[j]?.getD 0:Nat):=by
    rw [←Option.some.inj (hj.symm.trans (show (bCells rl)[j]? = some (.int .u8 (rl[j]?.getD 0:Nat)) from by unfold bCells;rw [List.getElem?_map,List.getElem?_eq_getElem hj2];simp))]
   rw [h6,show (⟨g,o,none⟩:Addr).add j=⟨g,o+j,none⟩ from by by_cases hz:j=0 <;> simp [Addr.add,hz]]
   exact h5) (by
   intro u hu
   obtain ⟨b,_,rfl⟩:=List.mem_map.1 hu
   rfl) h0 (by unfold maxLen;omega) (by omega) hbase
 have hc:bCells xs++bCells rl=bCells (xs++rl):=by simp [bCells]
 rw [hc] at h2
 obtain ⟨a',c',rfl⟩:=own_sliceB h2
 exact ⟨a',c',w',hr',h2,(Below.refl base w).grown h3.1 hbase (fun k hk=>(hown.lt k hk).1)⟩
def RawR (Y0:World) (base:Nat) (a':Option Addr) (m c':Nat) (L2 rl:List Nat):List Value→World→Prop
 | [],X=>X=Y0
 | [v],X=>∃ a2 c2,v=.slice a2 L2.length c2∧X.ownsRow base 5 1 (.slice a2 L2.length c2) L2.length (bCells L2)∧Below base Y0 X∧Grew Y0 X (.slice a' m c') (.slice a2 L2.length c2)
 | _ :: u :: _,X=>∃ a3 c3,u=.slice a3 (L2++rl).length c3∧X.ownsRow base 5 1 (.slice a3 (L2++rl).length c3) (L2++rl).length (bCells (L2++rl))∧Below base Y0 X
theorem RawR.early {Y0:World} {base:Nat} {a':Option Addr} {m c':Nat} {L2 rl:List Nat}:∀ {ms:List Value} {X:World},ms.length≤1→RawR Y0 base a' m c' L2 rl ms X→∀ k,k<Y0.heap.size→(Value.slice a' m c').ownBlock≠some k→X.heap[k]? = Y0.heap[k]?
 | [],X,_,h,k,_,_=>by rw [show X=Y0 from h]
 | [_],X,_,h,k,hk,hne=>by
  obtain ⟨a2,c2,_,_,_,hg⟩:=h
  exact grew_block hg hk hne
 | _ :: _ :: _,_,h,_,_,_,_=>by simp at h
def PutRet (w:World) (L:List Nat) (e:Ending) (w':World):Prop:=∃ a c,e=.returned (.tuple #[.slice a L.length c,.int .i64 0])∧w'.ownsRow w.heap.size 5 1 (.slice a L.length c) L.length (bCells L)∧Below w.heap.size w w'
set_option maxRecDepth 100000 in
theorem put_any (a:Option Addr) (c n:Nat) (vs:List PV) (w:World) (hn:vs.length=n) (h:VAt w a vs) (hok:∀ v∈vs,v.ok) (hlie:∀ v∈vs,v.lies w) (hl:n≤1000000) :
  Calls Tryz.prog 64 #[.slice a n c] w (PutRet w (packB vs)):=by
 have HN:=hid hn;have HV:=hid h;have HO:=hid hok;have HLI:=hid hlie
 clear hn h hok hlie
 go_enter Tryz.func64,Tryz.ntmps64
 go_upto_region 3 with fail
 go_loopw [4,12] (fun t4 t12 wr=>∃ (i m:Nat) (L:List Nat) (a':Option Addr) (c':Nat),t12=.int .i64 (i:Nat)∧t4=.slice a' m c'∧i≤n∧Hid (L.length=m)∧Hid (L=packB (vs.take i))∧Hid (wr.ownsRow w.heap.size 5 1 (.slice a' m c') m (bCells L))∧Below w.heap.size w wr) (fun _ t12 _=>n-(intOf t12).toNat)
 case atStart=>exact ⟨0,0,[],none,0,rfl,rfl,Nat.zero_le _,hid rfl,hid (by simp [packB]),hid ⟨rfl,.inl ⟨rfl,rfl⟩⟩,Below.refl _ _⟩
 case round =>
  obtain ⟨i,m,L,a',c',rfl,rfl,hi,HM,HL,HW,hb⟩:=hrel
  have hz:=hb.size
  have hm:m≤4106000000:=by
   have h1:=packB_len (l:=vs.take i) (fun v hv=>HO.out v (List.mem_of_mem_take hv))
   have h2:=HL.out;have h3:=HM.out;have h4:=HN.out
   rw [←h2,h3,List.length_take] at h1
   omega
  by_cases hlt:i<n
  ·have hlt':(i:Int)<(n:Int):=by omega
   have hi':i<vs.length:=by rw [HN.out];exact hlt
   obtain ⟨v,hv⟩:∃ v,vs[i]? = some v:=⟨_,List.getElem?_eq_getElem hi'⟩
   have hvo:=HO.out v (List.mem_of_getElem? hv)
   have hvl:=HLI.out v (List.mem_of_getElem? hv)
   rcases HV.out with h0|⟨b,rfl,hbl,hcell⟩
   ·rw [h0] at hi';simp at hi'
   have kk:=fun t u hu=>(hb.cell (p:=⟨b,i * 5+t,none⟩) hbl).trans (hcell i t v u hv hu)
   have HVV:=hid hv
   clear hcell hv hi'
   cases v with
   | num k =>
    have k0:=kk 0 _ rfl;have k1:=kk 1 _ rfl;have k2:=kk 2 _ rfl;have k3:=kk 3 _ rfl;have k4:=kk 4 _ rfl
    rw [Nat.add_zero] at k0
    clear kk
    go_upto_region 8 with fail
    generalize hW1:World.alloc _ _=w1 at *
    have hb1:Below wr.heap.size wr w1:=by rw [←hW1];exact below_auto
    have hz1:=hb1.size
    have q1:w1.cell? ⟨wr.heap.size,1,none⟩=some (.int .i64 k):=by rw [←hW1];simp [go_sem]
    have hown1:=HW.out.kept (K.grown_of_below hb1) (by cases (Value.slice a' m c').ownBlock <;> simp)
    clear hW1 k0 k1 k2 k3 k4
    go_wp2_with fail
    refine (appendNum_any a' c' m w.heap.size L k w1 HM.out hown1 (by omega) hvo (by omega)).mono ?_
    rintro e w2 ⟨a2,c2,rfl,hown2,hb2⟩
    have HW2:=hid hown2
    have HM2:=hid (rfl:(L++numB k).length=(L++numB k).length)
    have hbw:Below w.heap.size w w2:=(hb.trans (hb1.mono hz)).trans hb2
    have HL2:Hid (L++numB k=packB (vs.take (i+1))):=hid (by rw [packB_take HVV.out,HL.out];rfl)
    clear hown1 hown2
    generalize L++numB k=L2 at *
    generalize hm2:L2.length=m2 at *
    go_wp2_with fail
    go_roundw
    case rel=>exact ⟨i+1,m2,L2,a2,c2,by go_num,rfl,by omega,hid hm2,HL2,HW2,hbw⟩
    case measure=>simp [intOf];omega
   | key x =>
    have k0:=kk 0 _ rfl;have k1:=kk 1 _ rfl;have k2:=kk 2 _ rfl;have k3:=kk 3 _ rfl;have k4:=kk 4 _ rfl
    rw [Nat.add_zero] at k0
    clear kk
    have hx:x<2 ^ 64:=hvo
    go_upto_region 10 with fail
    generalize hW1:World.alloc _ _=w1 at *
    have hb1:Below wr.heap.size wr w1:=by rw [←hW1];exact below_auto
    have hz1:=hb1.size
    have q1:w1.cell? ⟨wr.heap.size,2,none⟩=some (.float .f64 x):=by rw [←hW1];simp [go_sem]
    have hown1:=HW.out.kept (K.grown_of_below hb1) (by cases (Value.slice a' m c').ownBlock <;> simp)
    clear hW1 k0 k1 k2 k3 k4
    go_upto_region 12 with (go_at_call 140;(with_reducible refine (floCode_any _ hx _).mono ?_);rintro e w' ⟨rfl,rfl⟩)
    rw [←codeN_int]
    have hu:=codeN_lt x
    have HT:Hid (packB (vs.take (i+1))=L++keyB (codeN x)):=hid (by rw [packB_take HVV.out,HL.out];rfl)
    have HW1:=hid hown1
    have hbw1:=hb.trans (hb1.mono hz)
    clear hown1 hb HVV
    generalize codeN x=u at *
    go_loopw [4,8] (fun t4 t8 wz=>∃ (j m2:Nat) (L3:List Nat) (a2:Option Addr) (c2:Nat),j≤8∧t8=.int .i64 (56-8 * (j:Int))∧t4=.slice a2 m2 c2∧Hid (L3.length=m2)∧m2≤m+j∧Hid (L3=L++(keyB u).take j)∧Hid (wz.ownsRow w.heap.size 5 1 (.slice a2 m2 c2) m2 (bCells L3))∧Below w.heap.size w wz) (fun _ t8 _=>(intOf t8+8).toNat)
    case atStart=>exact ⟨0,m,L,a',c',by omega,rfl,rfl,HM,Nat.le_refl _,hid (by simp),HW1,hbw1⟩
    case round =>
     obtain ⟨j,m2,L3,a2,c2,hj,rfl,rfl,HM3,hm2,HL3,HW3,hb3⟩:=hrel
     have hz3:=hb3.size
     by_cases hj8:j=8
     ·subst hj8
      have hL:Hid (L3=packB (vs.take (i+1))):=hid (by rw [HL3.out,HT.out,List.take_of_length_le (by rw [keyB_len];omega)])
      go_wp2_with fail
      go_roundw
      case rel=>exact ⟨i+1,m2,L3,a2,c2,by go_num,rfl,by omega,HM3,hL,HW3,hb3⟩
      case measure=>simp [intOf];omega
     ·have hj7:j=0∨j=1∨j=2∨j=3∨j=4∨j=5∨j=6∨j=7:=by omega
      have key:∀ (d:Nat),(keyB u)[j]? = some d→Hid (L3++[d]=L++(keyB u).take (j+1)):=fun d hd=>hid (by rw [HL3.out,List.take_add_one,hd,List.append_assoc];rfl)
      rcases hj7 with rfl|rfl|rfl|rfl|rfl|rfl|rfl|rfl
      ·have HK:=key (u / 72057594037927936) (by show some (u / 72057594037927936 % 256)=_;congr 1;omega)
       obtain ⟨a4,c4,w4,hr4,hown4,hb4⟩:=appB (u / 72057594037927936) HM3.out HW3.out (by omega) (by omega)
       have HO4:=hid hown4
       clear hown4 key
       go_upto_region 14 with fail
       go_wp2_with (at_builtin;refine Lib.wpList_append_run _ rfl _ _ _ _ rfl _ _ rfl rfl _ _ (hr4 _) ?_)
       go_roundw
       case rel=>exact ⟨1,m2+1,_,a4,c4,by omega,by go_num,rfl,hid (by rw [List.length_append,HM3.out];rfl),by omega,HK,HO4,hb3.trans hb4⟩
       case measure=>simp [intOf]
      ·have HK:=key (u / 281474976710656 % 256) rfl
       obtain ⟨a4,c4,w4,hr4,hown4,hb4⟩:=appB (u / 281474976710656 % 256) HM3.out HW3.out (by omega) (by omega)
       have HO4:=hid hown4
       clear hown4 key
       go_upto_region 14 with fail
       go_wp2_with (at_builtin;refine Lib.wpList_append_run _ rfl _ _ _ _ rfl _ _ rfl rfl _ _ (hr4 _) ?_)
       go_roundw
       case rel=>exact ⟨2,m2+1,_,a4,c4,by omega,by go_num,rfl,hid (by rw [List.length_append,HM3.out];rfl),by omega,HK,HO4,hb3.trans hb4⟩
       case measure=>simp [intOf]
      ·have HK:=key (u / 1099511627776 % 256) rfl
       obtain ⟨a4,c4,w4,hr4,hown4,hb4⟩:=appB (u / 1099511627776 % 256) HM3.out HW3.out (by omega) (by omega)
       have HO4:=hid hown4
       clear hown4 key
       go_upto_region 14 with fail
       go_wp2_with (at_builtin;refine Lib.wpList_append_run _ rfl _ _ _ _ rfl _ _ rfl rfl _ _ (hr4 _) ?_)
       go_roundw
       case rel=>exact ⟨3,m2+1,_,a4,c4,by omega,by go_num,rfl,hid (by rw [List.length_append,HM3.out];rfl),by omega,HK,HO4,hb3.trans hb4⟩
       case measure=>simp [intOf]
      ·have HK:=key (u / 4294967296 % 256) rfl
       obtain ⟨a4,c4,w4,hr4,hown4,hb4⟩:=appB (u / 4294967296 % 256) HM3.out HW3.out (by omega) (by omega)
       have HO4:=hid hown4
       clear hown4 key
       go_upto_region 14 with fail
       go_wp2_with (at_builtin;refine Lib.wpList_append_run _ rfl _ _ _ _ rfl _ _ rfl rfl _ _ (hr4 _) ?_)
       go_roundw
       case rel=>exact ⟨4,m2+1,_,a4,c4,by omega,by go_num,rfl,hid (by rw [List.length_append,HM3.out];rfl),by omega,HK,HO4,hb3.trans hb4⟩
       case measure=>simp [intOf]
      ·have HK:=key (u / 16777216 % 256) rfl
       obtain ⟨a4,c4,w4,hr4,hown4,hb4⟩:=appB (u / 16777216 % 256) HM3.out HW3.out (by omega) (by omega)
       have HO4:=hid hown4
       clear hown4 key
       go_upto_region 14 with fail
       go_wp2_with (at_builtin;refine Lib.wpList_append_run _ rfl _ _ _ _ rfl _ _ rfl rfl _ _ (hr4 _) ?_)
       go_roundw
       case rel=>exact ⟨5,m2+1,_,a4,c4,by omega,by go_num,rfl,hid (by rw [List.length_append,HM3.out];rfl),by omega,HK,HO4,hb3.trans hb4⟩
       case measure=>simp [intOf]
      ·have HK:=key (u / 65536 % 256) rfl
       obtain ⟨a4,c4,w4,hr4,hown4,hb4⟩:=appB (u / 65536 % 256) HM3.out HW3.out (by omega) (by omega)
       have HO4:=hid hown4
       clear hown4 key
       go_upto_region 14 with fail
       go_wp2_with (at_builtin;refine Lib.wpList_append_run _ rfl _ _ _ _ rfl _ _ rfl rfl _ _ (hr4 _) ?_)
       go_roundw
       case rel=>exact ⟨6,m2+1,_,a4,c4,by omega,by go_num,rfl,hid (by rw [List.length_append,HM3.out];rfl),by omega,HK,HO4,hb3.trans hb4⟩
       case measure=>simp [intOf]
      ·have HK:=key (u / 256 % 256) rfl
       obtain ⟨a4,c4,w4,hr4,hown4,hb4⟩:=appB (u / 256 % 256) HM3.out HW3.out (by omega) (by omega)
       have HO4:=hid hown4
       clear hown4 key
       go_upto_region 14 with fail
       go_wp2_with (at_builtin;refine Lib.wpList_append_run _ rfl _ _ _ _ rfl _ _ rfl rfl _ _ (hr4 _) ?_)
       go_roundw
       case rel=>exact ⟨7,m2+1,_,a4,c4,by omega,by go_num,rfl,hid (by rw [List.length_append,HM3.out];rfl),by omega,HK,HO4,hb3.trans hb4⟩
       case measure=>simp [intOf]
      ·have HK:=key (u % 256) rfl
       obtain ⟨a4,c4,w4,hr4,hown4,hb4⟩:=appB (u % 256) HM3.out HW3.out (by omega) (by omega)
       have HO4:=hid hown4
       clear hown4 key
       go_upto_region 14 with fail
       go_wp2_with (at_builtin;refine Lib.wpList_append_run _ rfl _ _ _ _ rfl _ _ rfl rfl _ _ (hr4 _) ?_)
       go_roundw
       case rel=>exact ⟨8,m2+1,_,a4,c4,by omega,by go_num,rfl,hid (by rw [List.length_append,HM3.out];rfl),by omega,HK,HO4,hb3.trans hb4⟩
       case measure=>simp [intOf]
   | raw ra rc rl =>
    have k0:=kk 0 _ rfl;have k1:=kk 1 _ rfl;have k2:=kk 2 _ rfl;have k3:=kk 3 _ rfl;have k4:=kk 4 _ rfl
    rw [Nat.add_zero] at k0
    clear kk
    obtain ⟨hr1,hr2,hr3⟩:=hvo
    have HL2:Hid (packB (vs.take (i+1))=L++numB rl.length++rl):=hid (by rw [packB_take HVV.out,HL.out,List.append_assoc];rfl)
    have HLI2:=hid (show BL w ra rl from hvl)
    obtain ⟨rn,hrn⟩:∃ n,n=rl.length:=⟨_,rfl⟩
    have HRN:=hid hrn
    clear hvl
    go_upto_region 16 with fail
    generalize hW1:World.alloc _ _=w1 at *
    have hb1:Below wr.heap.size wr w1:=by rw [←hW1];exact below_auto
    have hz1:=hb1.size
    have q1:w1.heap[wr.heap.size]? = some (.cells #[.int .i64 3,.int .i64 0,.float .f64 0,.slice ra rl.length rc,.bool false] 136 (0,0)):=by rw [←hW1];exact heap_alloc_new wr _
    have hown1:=HW.out.kept (K.grown_of_below hb1) (by cases (Value.slice a' m c').ownBlock <;> simp)
    have hBX:wr.heap.size<w1.heap.size:=by rw [←hW1];simp
    have hnB:(Value.slice a' m c').ownBlock≠some wr.heap.size:=fun e=>by have:=(HW.out.lt _ e).2;omega
    obtain ⟨BX,hBx⟩:∃ x,x=wr.heap.size:=⟨_,rfl⟩
    have hbw1:=hb.trans (hb1.mono hz)
    rw [←hBx] at q1 hBX hnB ⊢
    clear hW1 k0 k1 k2 k3 k4 hb1 hBx
    have q3:w1.cell? ⟨BX,3,none⟩=some (.slice ra rl.length rc):=by rw [cell_of_row w1 _ _ _ _ (0,0) q1];rfl
    go_upto_region 18 with fail
    obtain ⟨Y0,hY0⟩:∃ Y:World,Y = { w1 with drawn:=w1.drawn+1 }:=⟨_,rfl⟩
    have hb0:Below w1.heap.size w1 Y0:=by rw [hY0];exact Below.drew (Below.refl _ _)
    have z0:Y0.heap.size=w1.heap.size:=by rw [hY0]
    have HY0:=hid hY0
    have HQ3:=hid (show BX<Y0.heap.size∧(Value.slice a' m c').ownBlock≠some BX∧Y0.heap[BX]? = some (.cells #[.int .i64 3,.int .i64 0,.float .f64 0,.slice ra rl.length rc,.bool false] 136 (0,0)) from ⟨by omega,hnB,(hb0.block _ hBX).trans q1⟩)
    have HO0:=hid (hown1.kept (K.grown_of_below hb0) (by cases (Value.slice a' m c').ownBlock <;> simp))
    have HBY:=hid (hbw1.trans (hb0.mono (by omega)))
    have hzY:w.heap.size≤Y0.heap.size:=by omega
    have hkD:NumD (rl.length:Int):=⟨by omega,by omega⟩
    obtain ⟨L2,hL2⟩:∃ l,l=L++numB rl.length:=⟨_,rfl⟩
    have hL2len:L2.length≤4106000010:=by rw [hL2,List.length_append,HM.out];have:=numB_len hkD;omega
    have HL2':=hid hL2
    have HLL:=hid hL2len
    have HCN:=hid (show Calls Tryz.prog 139 #[.slice a' m c',.int .i64 (rl.length:Int)] Y0 (fun e w'=>∃ a2 c2,e=.returned (.slice a2 L2.length c2)∧w'.ownsRow w.heap.size 5 1 (.slice a2 L2.length c2) L2.length (bCells L2)∧Below w.heap.size Y0 w'∧Grew Y0 w' (.slice a' m c') (.slice a2 L2.length c2)) from by rw [hL2];exact appendNum_any2 a' c' m w.heap.size L (rl.length:Int) Y0 HM.out HO0.out hzY hkD (by omega))
    clear hY0 z0 hb0 hBX hnB q1 q3 hown1 hbw1 hz1 hL2 hL2len
    refine wp_region_chainV [(0,fun _=>.slice a' m c'),(0,fun _=>.pointer (some ⟨BX,3,none⟩)),(0,fun _=>.slice ra rl.length rc),(0,fun _=>.int .i64 rl.length),(1,fun ms=>ms.getD 0 undef),(0,fun _=>.pointer (some ⟨BX,3,none⟩)),(0,fun _=>.slice ra rl.length rc),(2,fun ms=>ms.getD 1 undef),(2,fun ms=>ms.getD 1 undef)] (RawR Y0 w.heap.size a' m c' L2 rl) (fun _ _=>False) [4,7] rfl (by kernel_rfl) (by kernel_rfl) (by kernel_rfl) (by decide) (by decide) HY0.out.symm ?_ ?_ ?_
    ·simp only [StepsV,List.nil_append,List.cons_append,Nat.zero_add,Nat.reduceAdd]
     refine ⟨?p0,?p1,?l2,?p3,?cl,?p5,?l6,?ap,?p8,trivial⟩
     case p0 =>
      intro ms X g1 g2 hx
      refine mM ?_
      generalize hR:(fun v w'=>(_→v=_)∧_)=RR
      have HR:=hid hR
      have HXX:=hid hx
      clear hR g1 g2 hx
      try refine mV ?_
      go_wp2_with fail
      have hR:=HR.out
      subst hR
      exact ⟨rfl,fun _=>rfl,HXX.out⟩
     case p1 =>
      intro ms X g1 g2 hx
      refine mM ?_
      generalize hR:(fun v w'=>(_→v=_)∧_)=RR
      have HR:=hid hR
      have HXX:=hid hx
      clear hR g1 g2 hx
      try refine mV ?_
      go_wp2_with fail
      have hR:=HR.out
      subst hR
      exact ⟨rfl,fun _=>rfl,HXX.out⟩
     case l2 =>
      intro ms X g1 g2 hx
      have hbx:=RawR.early (Nat.le_trans g2 (by decide +kernel)) hx _ HQ3.out.1 HQ3.out.2.1
      have k3:X.cell? ⟨BX,3,none⟩=some (.slice ra rl.length rc):=(by rw [cell_of_row X _ _ _ _ (0,0) (hbx.trans HQ3.out.2.2)];rfl)
      refine mM ?_
      generalize hR:(fun v w'=>(_→v=_)∧_)=RR
      have HR:=hid hR
      have HXX:=hid hx
      clear hR g1 g2 hx hbx
      try refine mV ?_
      go_wp2_with fail
      have hR:=HR.out
      subst hR
      exact ⟨rfl,fun _=>rfl,HXX.out⟩
     case p3 =>
      intro ms X g1 g2 hx
      refine mM ?_
      generalize hR:(fun v w'=>(_→v=_)∧_)=RR
      have HR:=hid hR
      have HXX:=hid hx
      clear hR g1 g2 hx
      try refine mV ?_
      go_wp2_with fail
      have hR:=HR.out
      subst hR
      exact ⟨rfl,fun _=>rfl,HXX.out⟩
     case cl =>
      intro ms X g1 g2 hx
      have hl:ms.length=0:=Nat.le_antisymm (Nat.le_trans g2 (by decide +kernel)) (Nat.le_trans (by decide +kernel) g1)
      obtain rfl:=P.ls0 hl
      obtain rfl:Y0=X:=Eq.symm hx
      refine mM ?_
      generalize hR:(fun v w'=>(_→v=_)∧_)=RR
      have HR:=hid hR
      clear hR g1 g2 hl
      refine mV ?_
      have HC:=hid (HCN.out)
      go_wp2_with fail
      refine HC.out.mono ?_
      rintro e X2 ⟨a2,c2,rfl,hown2,hb2,hg2⟩
      have HE:Hid (RawR Y0 w.heap.size a' m c' L2 rl [.slice a2 L2.length c2] X2):=hid (⟨a2,c2,rfl,hown2,hb2,hg2⟩)
      clear HC
      go_wp2_with fail
      have hR:=HR.out
      subst hR
      exact ⟨rfl,fun _=>rfl,HE.out⟩
     case p5 =>
      intro ms X g1 g2 hx
      refine mM ?_
      generalize hR:(fun v w'=>(_→v=_)∧_)=RR
      have HR:=hid hR
      have HXX:=hid hx
      clear hR g1 g2 hx
      try refine mV ?_
      go_wp2_with fail
      have hR:=HR.out
      subst hR
      exact ⟨rfl,fun _=>rfl,HXX.out⟩
     case l6 =>
      intro ms X g1 g2 hx
      have hbx:=RawR.early (Nat.le_trans g2 (by decide +kernel)) hx _ HQ3.out.1 HQ3.out.2.1
      have k3:X.cell? ⟨BX,3,none⟩=some (.slice ra rl.length rc):=(by rw [cell_of_row X _ _ _ _ (0,0) (hbx.trans HQ3.out.2.2)];rfl)
      refine mM ?_
      generalize hR:(fun v w'=>(_→v=_)∧_)=RR
      have HR:=hid hR
      have HXX:=hid hx
      clear hR g1 g2 hx hbx
      try refine mV ?_
      go_wp2_with fail
      have hR:=HR.out
      subst hR
      exact ⟨rfl,fun _=>rfl,HXX.out⟩
     case ap =>
      intro ms X g1 g2 hx
      have hlk:ms.length=1:=Nat.le_antisymm (Nat.le_trans g2 (by decide +kernel)) (Nat.le_trans (by decide +kernel) g1)
      obtain ⟨v0,rfl⟩:=ls1 hlk
      obtain ⟨a2,c2,rfl,hown2,hb2,_⟩:=hx
      have hrow:BL X ra rl:=HLI2.out.below (HBY.out.trans hb2)
      obtain ⟨a3,c3,X3,hrun,hown3,hb3⟩:=appRow (rc:=rc) rfl rfl hr3 hown2 hrow (Nat.le_trans hzY hb2.size) (by have:=HLL.out;omega) hr2
      have HRUN:=hid hrun
      refine mM ?_
      generalize hR:(fun v w'=>(_→v=_)∧_)=RR
      have HR2:=hid hR
      clear hR g1 g2 hlk
      refine mV ?_
      have hlen3:L2.length+rl.length=(L2++rl).length:=by rw [List.length_append]
      have HE:Hid (RawR Y0 w.heap.size a' m c' L2 rl [.slice a2 L2.length c2,.slice a3 (L2.length+rl.length) c3] X3):=hid ⟨a3,c3,by rw [hlen3],by rw [←hlen3];exact hown3,hb2.trans hb3⟩
      clear hown2 hb2 hrow hown3 hb3 hrun hlen3
      go_wp2_with (at_builtin;refine Lib.wpList_append_run _ rfl _ _ _ _ rfl _ _ rfl rfl _ _ (HRUN.out _) ?_)
      have hR:=HR2.out
      subst hR
      exact ⟨rfl,fun _=>rfl,HE.out⟩
     case p8 =>
      intro ms X g1 g2 hx
      have hlk:ms.length=2:=Nat.le_antisymm (Nat.le_trans g2 (by decide +kernel)) (Nat.le_trans (by decide +kernel) g1)
      obtain ⟨v0,v1,rfl⟩:=ls2 hlk
      refine mM ?_
      generalize hR:(fun v w'=>(_→v=_)∧_)=RR
      have HR2:=hid hR
      have HXX:=hid hx
      clear hR g1 g2 hlk hx
      refine mV ?_
      go_wp2_with fail
      have hR:=HR2.out
      subst hR
      exact ⟨rfl,fun _=>rfl,HXX.out⟩
    ·intro ms X hl hx
     obtain ⟨v0,v1,rfl⟩:=ls2 hl
     obtain ⟨a3,c3,rfl,hown3,hb3⟩:=hx
     refine mV ?_
     clear hl
     have HL3:Hid (L2++rl=packB (vs.take (i+1))):=hid (by rw [HL2.out,HL2'.out])
     have HW3:=hid hown3
     have hbw:Below w.heap.size w X:=HBY.out.trans hb3
     clear hown3 hb3
     generalize L2++rl=L3 at *
     generalize hm3:L3.length=m3 at *
     go_wp2_with fail
     go_roundw
     case rel=>exact ⟨i+1,m3,L3,a3,c3,by go_num,rfl,by omega,hid hm3,HL3,HW3,hbw⟩
     case measure=>simp [intOf];omega
    ·exact fun _ _ _ _ h=>h.elim
   | flag fb =>
    have k0:=kk 0 _ rfl;have k1:=kk 1 _ rfl;have k2:=kk 2 _ rfl;have k3:=kk 3 _ rfl;have k4:=kk 4 _ rfl
    rw [Nat.add_zero] at k0
    clear kk hvl hvo
    go_upto_region 20 with fail
    generalize hW1:World.alloc _ _=w1 at *
    have hb1:Below wr.heap.size wr w1:=by rw [←hW1];exact below_auto
    have hz1:=hb1.size
    have q1:w1.cell? ⟨wr.heap.size,4,none⟩=some (.bool fb):=by rw [←hW1];simp [go_sem]
    have hown1:=HW.out.kept (K.grown_of_below hb1) (by cases (Value.slice a' m c').ownBlock <;> simp)
    have hbw1:=hb.trans (hb1.mono hz)
    clear hW1 k0 k1 k2 k3 k4 hb1
    cases fb
    ·have HL2:Hid (L++[0]=packB (vs.take (i+1))):=hid (by rw [packB_take HVV.out,HL.out];rfl)
     go_upto_region 23 with fail
     obtain ⟨a2,c2,w2,hr,hown2,hb2⟩:=appB 0 HM.out hown1 (by omega) (by omega)
     rw [show (((0:Nat)):Int)=0 from rfl] at hr
     have HW2:=hid hown2
     have hbw:Below w.heap.size w w2:=hbw1.trans hb2
     clear hown2 hb2 hown1 hbw1
     go_wp2_with (at_builtin;refine Lib.wpList_append_run _ rfl _ _ _ _ rfl _ _ rfl rfl _ _ (hr _) ?_)
     go_roundw
     case rel=>exact ⟨i+1,m+1,_,a2,c2,by go_num,rfl,by omega,hid (by rw [List.length_append,HM.out];rfl),HL2,HW2,hbw⟩
     case measure=>simp [intOf];omega
    ·have HL2:Hid (L++[1]=packB (vs.take (i+1))):=hid (by rw [packB_take HVV.out,HL.out];rfl)
     go_upto_region 23 with fail
     obtain ⟨a2,c2,w2,hr,hown2,hb2⟩:=appB 1 HM.out hown1 (by omega) (by omega)
     rw [show (((1:Nat)):Int)=1 from rfl] at hr
     have HW2:=hid hown2
     have hbw:Below w.heap.size w w2:=hbw1.trans hb2
     clear hown2 hb2 hown1 hbw1
     go_wp2_with (at_builtin;refine Lib.wpList_append_run _ rfl _ _ _ _ rfl _ _ rfl rfl _ _ (hr _) ?_)
     go_roundw
     case rel=>exact ⟨i+1,m+1,_,a2,c2,by go_num,rfl,by omega,hid (by rw [List.length_append,HM.out];rfl),HL2,HW2,hbw⟩
     case measure=>simp [intOf];omega
  ·obtain rfl:i=n:=by omega
   have hall:vs.take i=vs:=List.take_of_length_le (by rw [HN.out];exact Nat.le_refl _)
   have HL3:=HL.out
   rw [hall] at HL3
   subst HL3
   have HM3:=HM.out
   subst HM3
   go_wp2_with fail
   exact bodyPost_ret (v:=.tuple #[.slice a' (packB vs).length c',.int .i64 0]) (by simp [results,Tryz.results64,go_sem]) rfl ⟨a',c',rfl,HW.out,hb⟩

end Go.Proofs.YtdeeoddacnealaaGreat.P