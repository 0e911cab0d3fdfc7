/- Several texts as one: PR PO PN PK PQ. -/
import Derived.Test.YtdeeoddacnealaaGreatMPA
import Derived.Laws.DeepNot64
set_option linter.unusedVariables false
namespace Go.Proofs.YtdeeoddacnealaaGreat.P
open Go.RowKit Fl

def wrongP:List PanicEntry:=[{ v:=.iface 269 (.agg #[.int .i64 30]),recovered:=false }]
set_option maxRecDepth 100000 in
theorem fail_any (p:Option Addr) (w:World):Calls Tryz.prog 100 #[.pointer p,.int .i64 30] w fun e w'=>e=.panicked wrongP∧w'=w:=by
 go_enter Tryz.func100,Tryz.ntmps100
 go_wp2_with fail
 exact ⟨rfl,rfl,rfl⟩
def RAt (B R:Nat) (bs:List Nat) (w:World):Prop:=∃ a c,w.heap[R]? = some (.cells #[.slice a bs.length c] 267 (0,0))∧bs.length≤c∧(bs=[]∨∃ b o,a=some ⟨b,o,none⟩∧b<B∧B≤R∧∀ i,i<bs.length→w.cell? ⟨b,o+i,none⟩=some (.int .u8 (bs[i]?.getD 0:Nat)))∧(∀ x∈bs,x<256)
theorem RAt.below {B R C:Nat} {bs:List Nat} {w w':World} (h:RAt B R bs w) (hb:Below C w w') (hB:R<C):RAt B R bs w':=by
 obtain ⟨a,c,h1,h2,h3,h4⟩:=h
 refine ⟨a,c,(hb.block R hB).trans h1,h2,?_,h4⟩
 rcases h3 with h3|⟨b,o,e1,e2,hBR,e4⟩
 ·exact .inl h3
 ·exact .inr ⟨b,o,e1,e2,hBR,fun i hi=>(hb.cell (p:=⟨b,o+i,none⟩) (Nat.lt_trans (Nat.lt_of_lt_of_le e2 hBR) hB)).trans (e4 i hi)⟩
theorem RAt.lt {B R:Nat} {bs:List Nat} {w:World} (h:RAt B R bs w):R<w.heap.size:=by
 obtain ⟨_,_,h1,_⟩:=h
 exact (Array.getElem?_eq_some_iff.1 h1).1
theorem RAt.byte {B R:Nat} {bs:List Nat} {w:World} (h:RAt B R bs w):∀ x∈bs,x<256:=by obtain ⟨_,_,_,_,_,h⟩:=h;exact h
theorem box1 {w:World} {R:Nat} {v:Value} {T:TypeId} (h:w.heap[R]? = some (.cells #[v] T (0,0))):w.cell? ⟨R,0,none⟩=some v:=by rw [cell_of_row w R 0 _ _ (0,0) h];rfl
def cutV (n:Nat):Value→Value
 | .slice (some ⟨b,o,none⟩) len c=>if c=n then .slice (some ⟨b,o,none⟩) (len-n) 0 else .slice (some ⟨b,o+n,none⟩) (len-n) (c-n)
 | v=>v
def cutW (R n:Nat) (w:World):World:=w.setCell ⟨R,0,none⟩ (cutV n ((w.cell? ⟨R,0,none⟩).getD undef))
def TakeRet (B R n:Nat) (bs:List Nat) (w:World) (e:Ending) (w':World):Prop:=∃ b o c,e=.returned (.slice (some ⟨b,o,none⟩) n c)∧b≠R∧b<w'.heap.size∧(∀ i,i<n→w'.cell? ⟨b,o+i,none⟩=some (.int .u8 (bs[i]?.getD 0:Nat)))∧RAt B R (bs.drop n) w'∧w.grownBy w' (some R)∧w'=cutW R n w
theorem cell_blk {w w':World} {b:Nat} (h:w'.heap[b]? = w.heap[b]?) (j:Nat):w'.cell? ⟨b,j,none⟩=w.cell? ⟨b,j,none⟩:=by simp only [World.cell?,h]
theorem set1R {w:World} {g i:Nat} {T:TypeId} {cur:Array Value} (h:w.heap[g]? = some (.cells cur T (0,0))) (v:Value):(w.setCell ⟨g,i,none⟩ v).heap[g]? = some (.cells (cur.setIfInBounds i v) T (0,0))∧w.grownBy (w.setCell ⟨g,i,none⟩ v) (some g):=by
 rw [setCell_eq_setRow w g i _ _ _ _ h]
 exact ⟨setRow_heap w g cur _ T (0,0) h,grownBy_setRow w g _⟩
theorem take_end {B R n:Nat} {bs:List Nat} {w:World} {b o c:Nat} {a':Option Addr} {c' c2:Nat} (h1:w.heap[R]? = some (.cells #[.slice (some ⟨b,o,none⟩) bs.length c] 267 (0,0))) (h4:∀ x∈bs,x<256) (e2:b<B) (hBR:B≤R) (hR:R<w.heap.size) (hn:n≤bs.length)
  (e4:∀ i,i<bs.length→w.cell? ⟨b,o+i,none⟩=some (.int .u8 (bs[i]?.getD 0:Nat))) (ha:(a'=some ⟨b,o+n,none⟩∨bs.length=n)∧bs.length-n≤c'∧.slice a' (bs.length-n) c'=cutV n (.slice (some ⟨b,o,none⟩) bs.length c)) :
  TakeRet B R n bs w (.returned (.slice (some ⟨b,o,none⟩) n c2)) (w.setCell ⟨R,0,none⟩ (.slice a' (bs.length-n) c')):=by
 obtain ⟨h5,h6⟩:=set1R (i:=0) h1 (.slice a' (bs.length-n) c')
 have e3:b≠R:=by omega
 have hbk:=h6.block b (by omega) (fun e=>e3 (Option.some.inj e))
 have hsz:=h6.size
 refine ⟨b,o,c2,rfl,e3,by omega,fun i hi=>(cell_blk hbk _).trans (e4 i (by omega)),⟨a',c',?_,?_,?_,fun x hx=>h4 x (List.mem_of_mem_drop hx)⟩,h6,by unfold cutW;rw [box1 h1,ha.2.2];rfl⟩
 ·rw [List.length_drop];exact h5
 ·rw [List.length_drop];exact ha.2.1
 ·rcases ha.1 with rfl|hl
  ·refine .inr ⟨b,o+n,rfl,e2,hBR,fun i hi=>?_⟩
   rw [List.length_drop] at hi
   have:=(cell_blk hbk (o+(n+i))).trans (e4 (n+i) (by omega))
   rw [List.getElem?_drop,Nat.add_assoc];exact this
  ·exact .inl (List.drop_eq_nil_of_le (by omega))
set_option maxRecDepth 100000 in
theorem take_ok (B R n:Nat) (bs:List Nat) (w:World) (h:RAt B R bs w) (h0:0<n) (hn:n≤bs.length) :
  Calls Tryz.prog 155 #[.pointer (some ⟨R,0,none⟩),.int .i64 n] w (TakeRet B R n bs w):=by
 have hR:=h.lt
 obtain ⟨a,c,h1,h2,h3,h4⟩:=h
 rcases h3 with h3|⟨b,o,rfl,e2,hBR,e4⟩
 ·rw [h3] at hn;simp at hn;omega
 have k0:=box1 h1
 have f0:w.frozen? ⟨R,0,none⟩=false:=by simp [World.frozen?,h1]
 have hlt':¬((n:Int) > (bs.length:Int)):=by omega
 have HT:Hid (∀ (a':Option Addr) (c' c2:Nat),((a'=some ⟨b,o+n,none⟩∨bs.length=n)∧bs.length-n≤c'∧.slice a' (bs.length-n) c'=cutV n (.slice (some ⟨b,o,none⟩) bs.length c))→TakeRet B R n bs w (.returned (.slice (some ⟨b,o,none⟩) n c2)) (w.setCell ⟨R,0,none⟩ (.slice a' (bs.length-n) c'))):=hid fun a' c' c2 ha=>take_end h1 h4 e2 hBR hR hn e4 ha
 clear e4 h1 h4
 go_enter Tryz.func155,Tryz.ntmps155
 go_wp2_with fail
 ·exact bodyPost_ret (v:=.slice (some ⟨b,o,none⟩) n n) (by simp [results,Tryz.results155,go_sem]) rfl (HT.out _ _ _ ⟨.inr (by omega),by omega,(if_pos (by assumption)).symm⟩)
 ·exact bodyPost_ret (v:=.slice (some ⟨b,o,none⟩) n c) (by simp [results,Tryz.results155,go_sem]) rfl (HT.out _ _ _ ⟨.inl rfl,by omega,(if_neg (by assumption)).symm⟩)
set_option maxRecDepth 100000 in
theorem take_no (B R n:Nat) (bs:List Nat) (w:World) (h:RAt B R bs w) (hn:bs.length<n) :
  Calls Tryz.prog 155 #[.pointer (some ⟨R,0,none⟩),.int .i64 n] w fun e w'=>e=.panicked wrongP∧w'=w:=by
 obtain ⟨a,c,h1,h2,h3,h4⟩:=h
 have k0:=box1 h1
 have hlt':(bs.length:Int)<(n:Int):=by omega
 clear h1 h3 h4
 go_enter Tryz.func155,Tryz.ntmps155
 go_wp2_with fail
 refine (fail_any _ _).mono ?_
 rintro e w' ⟨rfl,rfl⟩
 go_wp2_with fail
 exact ⟨rfl,rfl,rfl⟩

theorem and127 (c:Nat) (h:c<256):bits BinOp.and IntKind.u8 (c:Int) 127=((c % 128:Nat):Int):=by
 have hd:∀ x:Fin 256,x.val &&& 127=x.val % 128:=by decide +kernel
 rw [show (127:Int)=((127:Nat):Int) from rfl,u8_and_nat _ _ h (by omega),hd ⟨c,h⟩]
theorem pow128 (i:Nat):(2:Nat) ^ (7 * i)=128 ^ i:=by rw [Nat.pow_mul]
theorem step_lt {i u c:Nat} (hi:i≤9) (hu:u<128 ^ i) (hc:c<128) (h9:i=9→c≤1):c * 128 ^ i<18446744073709551616∧u+c * 128 ^ i<18446744073709551616:=by
 have:i=0∨i=1∨i=2∨i=3∨i=4∨i=5∨i=6∨i=7∨i=8∨i=9:=by omega
 rcases this with rfl|rfl|rfl|rfl|rfl|rfl|rfl|rfl|rfl|rfl <;> simp at hu ⊢ <;> omega
theorem or_step {i u c:Nat} (hi:i≤9) (hu:u<128 ^ i) (hc:c<128) (h9:i=9→c≤1) :
  bits BinOp.or IntKind.u64 (u:Int) (IntKind.u64.wrap ((c:Int) * 2 ^ (7 * i)))=((u+c * 128 ^ i:Nat):Int):=by
 obtain ⟨h1,h2⟩:=step_lt hi hu hc h9
 have e0:(c:Int) * 2 ^ (7 * i)=((c * 128 ^ i:Nat):Int):=by rw [←pow128];simp
 have e:IntKind.u64.wrap ((c:Int) * 2 ^ (7 * i))=((c * 128 ^ i:Nat):Int):=by
  rw [e0,IntKind.wrap_u64];omega
 rw [e,u64_or_nat _ _ (by omega) h1]
 have:=Nat.two_pow_add_eq_or_of_lt (i:=7 * i) (b:=u) (by rw [pow128];exact hu) c
 rw [pow128] at this
 rw [Nat.or_comm,Nat.mul_comm c,←this,Nat.add_comm]
theorem and1 {u:Nat} (h:u<18446744073709551616):bits BinOp.and IntKind.u64 (u:Int) 1=((u % 2:Nat):Int):=by
 rw [show (1:Int)=((1:Nat):Int) from rfl,u64_and_nat _ _ h (by omega),Nat.and_one_is_mod]
theorem xor_m1 (a:Nat) (ha:a<9223372036854775808):bits .xor .i64 (a:Int) (-1) = -1-(a:Int):=by
 rw [←i64_not a ha]
 show IntKind.i64.wrap ((BitVec.ofInt 64 (a:Int) ^^^ BitVec.ofInt 64 (-1)).toNat:Int)=IntKind.i64.wrap ((BitVec.ofInt 64 (-1) ^^^ BitVec.ofInt 64 (a:Int)).toNat:Int)
 rw [BitVec.xor_comm]
theorem xor_0 (a:Nat) (ha:a<9223372036854775808):bits .xor .i64 (a:Int) 0=(a:Int):=by
 show IntKind.i64.wrap ((BitVec.ofInt 64 (a:Int) ^^^ BitVec.ofInt 64 0).toNat:Int)=_
 rw [show BitVec.ofInt 64 0=0#64 from rfl,BitVec.xor_zero,ofInt_u64 a (by omega)]
 simp [IntKind.wrap,IntKind.bits,IntKind.signed]
 omega
theorem zag_bits {u:Nat} (h:u<18446744073709551616):bits BinOp.xor IntKind.i64 (wrap64 ((u:Int) / 2)) (wrap64 (-wrap64 (bits BinOp.and IntKind.u64 (u:Int) 1)))=zag u:=by
 rw [and1 h]
 have e1:wrap64 ((u:Int) / 2)=((u / 2:Nat):Int):=by unfold wrap64;omega
 rw [e1]
 unfold zag
 by_cases h2:u % 2=0
 ·rw [if_pos h2,h2]
  have:wrap64 (-wrap64 ((0:Nat):Int))=0:=by unfold wrap64;omega
  rw [this,xor_0 _ (by omega)]
 ·rw [if_neg h2,show u % 2=1 by omega]
  have:wrap64 (-wrap64 ((1:Nat):Int)) = -1:=by unfold wrap64;omega
  rw [this,xor_m1 _ (by omega)];omega

def ReadRet {α:Type} (B R:Nat) (v:α→Value) (o:Option (α×List Nat)) (w:World) (e:Ending) (w':World):Prop:=match o with
 | none=>e=.panicked wrongP∧w.grownBy w' (some R)
 | some (x,r)=>e=.returned (v x)∧RAt B R r w'∧w.grownBy w' (some R)
set_option maxHeartbeats 1000000 in
set_option maxRecDepth 100000 in
theorem num_any (B R:Nat) (bs:List Nat) (w:World) (h:RAt B R bs w) :
  Calls Tryz.prog 78 #[.pointer (some ⟨R,0,none⟩)] w (ReadRet B R (fun n=>.int .i64 n) (getNum bs) w):=by
 have HR:=hid h
 clear h
 generalize hq:getNum bs=q
 unfold getNum at hq
 go_enter Tryz.func78,Tryz.ntmps78
 go_upto_region 3 with fail
 go_loopw [3,4] (fun t3 t4 wr=>∃ (i u:Nat) (l:List Nat),t3=.int .u64 (u:Nat)∧t4=.int .i64 ((7 * i:Nat):Int)∧i≤9∧Hid (u<128 ^ i)∧Hid ((getV i u l).map (fun p=>(zag p.1,p.2))=q)∧Hid (RAt B R l wr)∧Hid (w.grownBy wr (some R))) (fun _ t4 _=>70-(intOf t4).toNat)
 case atStart=>exact ⟨0,0,bs,rfl,rfl,Nat.zero_le _,hid (by decide),hid hq,HR,hid (World.grownBy.refl _ _)⟩
 case round =>
  obtain ⟨i,u,l,rfl,rfl,hi,HU,HQ,HL,HG⟩:=hrel
  cases l with
  | nil =>
   have hqn:q=none:=by rw [←HQ.out];simp [getV]
   subst hqn
   go_wp2_with fail
   refine (take_no B R 1 [] wr HL.out (by simp)).mono ?_
   rintro e w1 ⟨rfl,rfl⟩
   go_wp2_with fail
   exact ⟨rfl,rfl,HG.out⟩
  | cons c r =>
   go_wp2_with fail
   refine (take_ok B R 1 (c :: r) wr HL.out (by simp) (by simp)).mono ?_
   rintro e w1 ⟨b,o,c1,rfl,hne,hbl,hcl,hR1,hg1,-⟩
   have k0:w1.cell? ⟨b,o,none⟩=some (.int .u8 (c:Nat)):=hcl 0 (by omega)
   have HR1:Hid (RAt B R r w1):=hid hR1
   have HG1:=hid (HG.out.trans hg1)
   have hc:c<256:=HL.out.byte c (by simp)
   clear hcl hR1 hg1
   by_cases hF:(i=9∧1<c)∨(0<i∧c=0)
   ·have hqn:q=none:=by rw [←HQ.out,getV,if_pos hF];rfl
    subst hqn
    clear HQ
    rcases hF with ⟨rfl,hc1⟩|⟨hi0,rfl⟩
    ·have hc1':1<(c:Int):=by omega
     go_wp2_with fail
     refine (fail_any _ _).mono ?_
     rintro e w2 ⟨rfl,rfl⟩
     go_wp2_with fail
     exact ⟨rfl,rfl,HG1.out⟩
    ·by_cases h9:i=9
     ·subst h9
      go_wp2_with fail
      refine (fail_any _ _).mono ?_
      rintro e w2 ⟨rfl,rfl⟩
      go_wp2_with fail
      exact ⟨rfl,rfl,HG1.out⟩
     ·have h9':¬7 * (i:Int)=63:=by omega
      have hi0':0<(i:Int):=by omega
      have hi1':0<7 * (i:Int):=by omega
      go_wp2_with fail
      refine (fail_any _ _).mono ?_
      rintro e w2 ⟨rfl,rfl⟩
      go_wp2_with fail
      exact ⟨rfl,rfl,HG1.out⟩
   ·have hQ:=HQ.out
    rw [getV,if_neg hF] at hQ
    have e1:=and127 c hc
    have hlt:c % 128<128:=Nat.mod_lt _ (by decide)
    by_cases hs:c<128
    ·have hs':(c:Int)<128:=by omega
     rw [if_pos hs] at hQ
     have ec:c % 128=c:=by omega
     have hor:=or_step (c:=c % 128) hi HU.out hlt (by omega)
     obtain ⟨U,hU⟩:∃ U,U=u+c % 128 * 128 ^ i:=⟨_,rfl⟩
     have hUl:U<18446744073709551616:=by rw [hU];exact (step_lt hi HU.out hlt (by omega)).2
     have hz:=zag_bits hUl
     rw [←hU] at hor
     rw [←ec,←hU] at hQ
     have HX:Hid (ReadRet B R (fun n=>.int .i64 n) q w (.returned (.int .i64 (zag U))) w1):=hid (by rw [←hQ];exact ⟨rfl,HR1.out,HG1.out⟩)
     clear hU ec hQ HQ hUl
     have horH:=hid hor
     push_cast at hor
     by_cases h9:i=9
     ·subst h9
      by_cases h1:c=1
      ·subst h1
       have hor9:bits BinOp.or IntKind.u64 (u:Int) (IntKind.u64.wrap (IntKind.u64.wrap (bits BinOp.and IntKind.u8 1 127) * 9223372036854775808))=(U:Int):=by
        have h:=horH.out
        rw [show bits BinOp.and IntKind.u8 1 127=1 from e1,show IntKind.u64.wrap 1=1 from by decide]
        exact h
       go_wp2_with fail
       exact bodyPost_ret (v:=.int .i64 (zag U)) (by simp [results,Tryz.results78,go_sem]) rfl HX.out
      ·exfalso;omega
     ·have h9':¬7 * (i:Int)=63:=by omega
      by_cases h0:i=0
      ·subst h0
       have horZ:bits BinOp.or IntKind.u64 (u:Int) ((c:Int) % 128)=(U:Int):=by
        have h:=horH.out
        have e:IntKind.u64.wrap (((c % 128:Nat):Int) * 2 ^ (7 * 0))=(c:Int) % 128:=by rw [IntKind.wrap_u64];simp;omega
        rw [e] at h;exact h
       go_wp2_with fail
       exact bodyPost_ret (v:=.int .i64 (zag U)) (by simp [results,Tryz.results78,go_sem]) rfl HX.out
      ·have h0':0<(i:Int):=by omega
       have h1':0<7 * (i:Int):=by omega
       have hc0:¬((c:Int)=0):=by omega
       go_wp2_with fail
       exact bodyPost_ret (v:=.int .i64 (zag U)) (by simp [results,Tryz.results78,go_sem]) rfl HX.out
    ·have hs':¬(c:Int)<128:=by omega
     rw [if_neg hs] at hQ
     have h9:i≠9:=by omega
     have h9':¬7 * (i:Int)=63:=by omega
     have hor:=or_step (c:=c % 128) hi HU.out hlt (by omega)
     obtain ⟨U,hU⟩:∃ U,U=u+c % 128 * 128 ^ i:=⟨_,rfl⟩
     have HU2:Hid (U<128 ^ (i+1)):=hid (by
      rw [hU,Nat.pow_succ]
      have h1:=HU.out
      have h2:=Nat.mul_le_mul_right (128 ^ i) (show c % 128≤127 by omega)
      omega)
     rw [←hU] at hor
     rw [←hU] at hQ
     have HQ2:=hid hQ
     clear hU hQ HQ
     have horH:=hid hor
     push_cast at hor
     by_cases h0:i=0
     ·subst h0
      have horZ:bits BinOp.or IntKind.u64 (u:Int) ((c:Int) % 128)=(U:Int):=by
       have h:=horH.out
       have e:IntKind.u64.wrap (((c % 128:Nat):Int) * 2 ^ (7 * 0))=(c:Int) % 128:=by rw [IntKind.wrap_u64];simp;omega
       rw [e] at h;exact h
      go_wp2_with fail
      go_roundw
      case rel=>exact ⟨1,U,r,rfl,by go_num,by omega,HU2,HQ2,HR1,HG1⟩
      case measure=>simp [intOf]
     ·have h0':0<(i:Int):=by omega
      have h1':0<7 * (i:Int):=by omega
      have hc0:¬((c:Int)=0):=by omega
      go_wp2_with fail
      go_roundw
      case rel=>exact ⟨i+1,U,r,rfl,by go_num,by omega,HU2,HQ2,HR1,HG1⟩
      case measure=>simp [intOf];omega

theorem ofN_lt {u:Nat} (hu:u<18446744073709551616):ofN u<2 ^ 64:=by
 unfold ofN nanBits top
 split
 ·decide
 ·split <;> omega
theorem okN_zero:okN 0=true:=by
 unfold okN ofN
 rw [if_pos rfl,decide_eq_true_eq]
 unfold codeN codeOf
 rw [if_pos (by decide)];rfl
def fromN (u:Nat):Value:=.tuple #[.float .f64 (if okN u=true then ofN u else 0),.bool (okN u)]
set_option maxRecDepth 100000 in
theorem from_any (u:Nat) (hu:u<18446744073709551616) (w:World) :
  Calls Tryz.prog 206 #[.int .u64 u] w fun e w'=>e=.returned (fromN u)∧w=w':=by
 by_cases h0:u=0
 ·subst h0
  have e:fromN 0=.tuple #[.float .f64 nanBits,.bool true]:=by unfold fromN;rw [okN_zero];rfl
  rw [e]
  go_enter Tryz.func206,Tryz.ntmps206
  go_wp2_with (go_at_call 237;(with_reducible refine (nan_any _).mono ?_);rintro e w' ⟨rfl,rfl⟩)
  exact bodyPost_ret (v:=.tuple #[.float .f64 nanBits,.bool true]) (by simp [results,Tryz.results206,go_sem]) rfl ⟨rfl,rfl⟩
 ·have hlt:=ofN_lt hu
  have hc:=codeN_int (ofN u)
  have h0':¬((u:Nat):Int)=0:=by omega
  have hx:=bits_xor_all (b:=u) hu
  have ha:=bits_andNot_top (b:=u) hu
  have ht:=bits_and_top (b:=u) hu
  cases hk:okN u with
  | true =>
   have e:fromN u=.tuple #[.float .f64 (ofN u),.bool true]:=by unfold fromN;rw [hk];rfl
   have hce:codeOf (ofN u)=(u:Int):=by rw [←hc];unfold okN at hk;rw [decide_eq_true_eq] at hk;rw [hk]
   rw [e]
   by_cases hp:u<top
   ·have eo:ofN u=18446744073709551615-u:=by unfold ofN;rw [if_neg h0,if_neg (by omega)]
    rw [if_pos hp] at ht
    have hx':bits BinOp.xor IntKind.u64 IntKind.u64.max (u:Int)=((ofN u:Nat):Int):=by rw [hx,eo];omega
    generalize ofN u=v at *
    clear eo hx ha hc
    go_enter Tryz.func206,Tryz.ntmps206
    go_wp2_with (first|(go_at_call 140;(with_reducible refine (floCode_any _ hlt _).mono ?_);rintro e w' ⟨rfl,rfl⟩))
    exact bodyPost_ret (v:=.tuple #[.float .f64 v,.bool true]) (by simp [results,Tryz.results206,go_sem]) rfl ⟨rfl,rfl⟩
   ·have eo:ofN u=u-top:=by unfold ofN;rw [if_neg h0,if_pos (by omega)]
    rw [if_neg hp] at ht
    have ha':bits BinOp.andNot IntKind.u64 (u:Int) 9223372036854775808=((ofN u:Nat):Int):=by rw [ha,eo];unfold top at *;omega
    generalize ofN u=v at *
    clear eo hx ha hc
    go_enter Tryz.func206,Tryz.ntmps206
    go_wp2_with (first|(go_at_call 140;(with_reducible refine (floCode_any _ hlt _).mono ?_);rintro e w' ⟨rfl,rfl⟩))
    exact bodyPost_ret (v:=.tuple #[.float .f64 v,.bool true]) (by simp [results,Tryz.results206,go_sem]) rfl ⟨rfl,rfl⟩
  | false =>
   have e:fromN u=.tuple #[.float .f64 0,.bool false]:=by unfold fromN;rw [hk];rfl
   have hce:¬codeOf (ofN u)=(u:Int):=by rw [←hc];unfold okN at hk;rw [decide_eq_false_iff_not] at hk;omega
   rw [e]
   by_cases hp:u<top
   ·have eo:ofN u=18446744073709551615-u:=by unfold ofN;rw [if_neg h0,if_neg (by omega)]
    rw [if_pos hp] at ht
    have hx':bits BinOp.xor IntKind.u64 IntKind.u64.max (u:Int)=((ofN u:Nat):Int):=by rw [hx,eo];omega
    generalize ofN u=v at *
    clear eo hx ha hc
    go_enter Tryz.func206,Tryz.ntmps206
    go_wp2_with (first|(go_at_call 140;(with_reducible refine (floCode_any _ hlt _).mono ?_);rintro e w' ⟨rfl,rfl⟩))
    exact bodyPost_ret (v:=.tuple #[.float .f64 0,.bool false]) (by simp [results,Tryz.results206,go_sem]) rfl ⟨rfl,rfl⟩
   ·have eo:ofN u=u-top:=by unfold ofN;rw [if_neg h0,if_pos (by omega)]
    rw [if_neg hp] at ht
    have ha':bits BinOp.andNot IntKind.u64 (u:Int) 9223372036854775808=((ofN u:Nat):Int):=by rw [ha,eo];unfold top at *;omega
    generalize ofN u=v at *
    clear eo hx ha hc
    go_enter Tryz.func206,Tryz.ntmps206
    go_wp2_with (first|(go_at_call 140;(with_reducible refine (floCode_any _ hlt _).mono ?_);rintro e w' ⟨rfl,rfl⟩))
    exact bodyPost_ret (v:=.tuple #[.float .f64 0,.bool false]) (by simp [results,Tryz.results206,go_sem]) rfl ⟨rfl,rfl⟩

theorem or_key {u c i:Nat} (hi:i<8) (hu:u<256 ^ i) (hc:c<256):bits BinOp.or IntKind.u64 (IntKind.u64.wrap ((u:Int) * 256)) (c:Int)=((u * 256+c:Nat):Int):=by
 have h1:u * 256<18446744073709551616:=by
  have:i=0∨i=1∨i=2∨i=3∨i=4∨i=5∨i=6∨i=7:=by omega
  rcases this with rfl|rfl|rfl|rfl|rfl|rfl|rfl|rfl <;> simp at hu <;> omega
 have e:IntKind.u64.wrap ((u:Int) * 256)=((u * 256:Nat):Int):=by rw [IntKind.wrap_u64];omega
 rw [e,u64_or_nat _ _ h1 (by omega)]
 have:=Nat.two_pow_add_eq_or_of_lt (i:=8) (b:=c) hc u
 rw [show (2:Nat) ^ 8=256 from rfl] at this
 rw [Nat.mul_comm,←this]
theorem unkey_take {l:List Nat} {i c:Nat} (h:l[i]? = some c):unkeyB (l.take (i+1))=unkeyB (l.take i) * 256+c:=by
 unfold unkeyB
 rw [List.take_add_one,h,List.foldl_append];rfl
theorem unkey_lt:∀ (i:Nat) {l:List Nat},(∀ c∈l,c<256)→i≤l.length→unkeyB (l.take i)<256 ^ i
 | 0,l,_,_=>by simp [unkeyB]
 | i+1,l,hb,hi=>by
  have hl:i<l.length:=by omega
  rw [unkey_take (List.getElem?_eq_getElem hl),Nat.pow_succ]
  have h1:=unkey_lt i hb (by omega)
  have h2:=hb _ (List.getElem_mem hl)
  omega
def KeyRet (B R:Nat) (o:Option (Nat×List Nat)) (w:World) (e:Ending) (w':World):Prop:=match o with
 | none=>e=.panicked wrongP∧w.grownBy w' (some R)
 | some (x,r)=>e=.returned (.float .f64 x)∧w'=cutW R 8 w∧RAt B R r w'∧w.grownBy w' (some R)
set_option maxHeartbeats 1000000 in
set_option maxRecDepth 100000 in
theorem key_x (B R:Nat) (bs:List Nat) (w:World) (h:RAt B R bs w) :
  Calls Tryz.prog 148 #[.pointer (some ⟨R,0,none⟩)] w (KeyRet B R (getKey bs) w):=by
 have HR:=hid h
 clear h
 by_cases h8:bs.length<8
 ·have hq:getKey bs=none:=by unfold getKey;rw [if_pos h8]
  rw [hq]
  go_enter Tryz.func148,Tryz.ntmps148
  go_wp2_with fail
  refine (take_no B R 8 bs w HR.out h8).mono ?_
  rintro e w1 ⟨rfl,rfl⟩
  go_wp2_with fail
  exact ⟨rfl,rfl,World.grownBy.refl _ _⟩
 ·have hq:getKey bs=if okN (unkeyB (bs.take 8)) then some (ofN (unkeyB (bs.take 8)),bs.drop 8) else none:=by unfold getKey;rw [if_neg h8]
  have hb:=HR.out.byte
  have hu:=unkey_lt 8 hb (by omega)
  have HB:=hid hb
  rw [hq]
  generalize hQ:(if okN (unkeyB (bs.take 8)) then some (ofN (unkeyB (bs.take 8)),bs.drop 8) else none)=q
  have HQ:=hid hQ
  clear hQ
  go_enter Tryz.func148,Tryz.ntmps148
  go_wp2_with fail
  refine (take_ok B R 8 bs w HR.out (by omega) (by omega)).mono ?_
  rintro e w1 ⟨b,o,c1,rfl,hne,hbl,hcl,hR1,hg1,hx1⟩
  have HC:=hid hcl
  have HR1:=hid hR1
  have HG1:=hid hg1
  have HX1:=hid hx1
  clear hcl hR1 hg1 hx1 hq hb
  go_upto_region 3 with fail
  go_loopw [3,11] (fun t3 t11 wr=>∃ i:Nat,t3=.int .u64 ((unkeyB (bs.take i):Nat):Int)∧t11=.int .i64 (i:Nat)∧i≤8∧wr=w1) (fun _ t11 _=>8-(intOf t11).toNat)
  case atStart=>exact ⟨0,by simp [unkeyB],rfl,by omega,rfl⟩
  case round =>
   obtain ⟨i,rfl,rfl,hi,rfl⟩:=hrel
   by_cases hlt:i<8
   ·have hlt':(i:Int)<8:=by omega
    have hil:i<bs.length:=by omega
    have k0:=HC.out i hlt
    have hy:bs[i]? = some (bs[i]?.getD 0):=by rw [List.getElem?_eq_getElem hil];rfl
    have hyb:=HB.out _ (List.mem_of_getElem? hy)
    generalize bs[i]?.getD 0=y at *
    have hs:=unkey_take hy
    have hor:=or_key hlt (unkey_lt i HB.out (by omega)) hyb
    rw [←hs] at hor
    clear hs hy
    generalize unkeyB (bs.take i)=u at *
    have HO:=hid hor
    go_wp2_with fail
    go_roundw
    case rel=>exact ⟨i+1,by simp,by go_num,by omega,by first|rfl|trivial⟩
    case measure=>simp [intOf];omega
   ·obtain rfl:i=8:=by omega
    have hQ:=HQ.out
    clear HQ
    generalize unkeyB (bs.take 8)=u at *
    cases hk:okN u with
    | true =>
     rw [hk,if_pos rfl] at hQ
     subst hQ
     have e:fromN u=.tuple #[.float .f64 (ofN u),.bool true]:=by unfold fromN;rw [hk];rfl
     go_wp2_with fail
     refine (from_any u hu _).mono ?_
     rw [e]
     rintro e w2 ⟨rfl,rfl⟩
     go_wp2_with fail
     exact bodyPost_ret (v:=.float .f64 (ofN u)) (by simp [results,Tryz.results148,go_sem]) rfl ⟨rfl,HX1.out,HR1.out,HG1.out⟩
    | false =>
     rw [hk,if_neg (by decide)] at hQ
     subst hQ
     have e:fromN u=.tuple #[.float .f64 0,.bool false]:=by unfold fromN;rw [hk];rfl
     go_wp2_with fail
     refine (from_any u hu _).mono ?_
     rw [e]
     rintro e w2 ⟨rfl,rfl⟩
     go_wp2_with fail
     refine (fail_any _ _).mono ?_
     rintro e w2 ⟨rfl,rfl⟩
     go_wp2_with fail
     exact ⟨rfl,rfl,HG1.out⟩
theorem key_any (B R:Nat) (bs:List Nat) (w:World) (h:RAt B R bs w) :
  Calls Tryz.prog 148 #[.pointer (some ⟨R,0,none⟩)] w (ReadRet B R (fun x=>.float .f64 x) (getKey bs) w):=by
 refine (key_x B R bs w h).mono ?_
 cases getKey bs with
 | none=>exact fun _ _ h=>h
 | some p=>exact fun _ _ h=>⟨h.1,h.2.2⟩
set_option maxRecDepth 100000 in
theorem count_any (B R:Nat) (m:Nat) (bs:List Nat) (w:World) (h:RAt B R bs w) :
  Calls Tryz.prog 80 #[.pointer (some ⟨R,0,none⟩),.int .i64 m] w (ReadRet B R (fun n=>.int .i64 (n:Nat)) (getCount m bs) w):=by
 generalize hQ:getCount m bs=q
 unfold getCount at hQ
 go_enter Tryz.func80,Tryz.ntmps80
 go_wp2_with fail
 refine (num_any B R bs w h).mono ?_
 intro e w1 h1
 cases hn:getNum bs with
 | none =>
  rw [hn] at h1 hQ
  subst hQ
  obtain ⟨rfl,hg⟩:=h1
  go_wp2_with fail
  exact ⟨rfl,rfl,hg⟩
 | some p =>
  obtain ⟨n,r⟩:=p
  rw [hn] at h1 hQ
  simp only at hQ
  obtain ⟨rfl,hr,hg⟩:=h1
  have hd:=(num_good.bwd _ _ _ hn h.byte).2
  have h1:=hd.1;have h2:=hd.2
  by_cases hc:n<0∨(m:Int)<n
  ·rw [if_pos hc] at hQ
   subst hQ
   by_cases hc:n<0
   ·go_wp2_with fail
    refine (fail_any _ _).mono ?_
    rintro e w2 ⟨rfl,rfl⟩
    go_wp2_with fail
    exact ⟨rfl,rfl,hg⟩
   ·have hm:(m:Int)<n:=by omega
    go_wp2_with fail
    refine (fail_any _ _).mono ?_
    rintro e w2 ⟨rfl,rfl⟩
    go_wp2_with fail
    exact ⟨rfl,rfl,hg⟩
  ·rw [if_neg hc] at hQ
   obtain ⟨k,rfl⟩:∃ k:Nat,n=k:=⟨n.toNat,by omega⟩
   have hn0:¬((k:Int)<0):=by omega
   have hm:¬((m:Int)<(k:Int)):=by omega
   have HX:Hid (ReadRet B R (fun n=>.int .i64 (n:Nat)) q w (.returned (.int .i64 (k:Int))) w1):=hid (by rw [←hQ];exact ⟨rfl,hr,hg⟩)
   clear hQ hn hd h1 h2 hc hr hg
   go_wp2_with fail
   exact bodyPost_ret (v:=.int .i64 (k:Int)) (by simp [results,Tryz.results80,go_sem]) rfl HX.out

theorem grown_below {R C:Nat} {w a b:World} (h:w.grownBy a (some R)) (k:Below C a b) (hB:w.heap.size≤C):w.grownBy b (some R) :=
 ⟨k.os.trans h.os,k.tape.trans h.tape,k.output.trans h.output,Nat.le_trans h.size k.size,fun i hi hn=>(k.block i (Nat.lt_of_lt_of_le hi hB)).trans (h.block i hi hn)⟩
theorem many_none {α:Type} {p:List Nat→Option (α×List Nat)} {b:List Nat}:∀ {n k:Nat},getMany p n b=none→getMany p (n+k) b=none
 | n,0,h=>h
 | n,k+1,h=>by rw [Nat.add_succ,getMany,many_none h]
def KeysRet (B R:Nat) (o:Option (List Nat×List Nat)) (w:World) (e:Ending) (w':World):Prop:=match o with
 | none=>e=.panicked wrongP∧w.grownBy w' (some R)
 | some (xs,r)=>∃ a c,e=.returned (.slice a xs.length c)∧w'.ownsRow w.heap.size 57 1 (.slice a xs.length c) xs.length (K.fCells xs)∧RAt B R r w'∧w.grownBy w' (some R)
set_option maxHeartbeats 1000000 in
set_option maxRecDepth 100000 in
theorem keys_any (B R m:Nat) (bs:List Nat) (w:World) (h:RAt B R bs w) (hm:m≤1000) :
  Calls Tryz.prog 147 #[.pointer (some ⟨R,0,none⟩),.int .i64 m] w (KeysRet B R (getRow m getKey bs) w):=by
 have hRl:=h.lt
 generalize hQ:getRow m getKey bs=q
 unfold getRow at hQ
 have hb0:=hid h.byte
 go_enter Tryz.func147,Tryz.ntmps147
 go_wp2_with fail
 refine (count_any B R m bs w h).mono ?_
 intro e w1 h1
 cases hn:getCount m bs with
 | none =>
  rw [hn] at h1 hQ
  subst hQ
  obtain ⟨rfl,hg⟩:=h1
  go_wp2_with fail
  exact ⟨rfl,rfl,hg⟩
 | some p =>
  obtain ⟨n,r0⟩:=p
  rw [hn] at h1 hQ
  simp only at hQ
  obtain ⟨rfl,hr,hg⟩:=h1
  have hnm:n≤m:=by
   unfold getCount at hn
   cases hx:getNum bs with
   | none=>rw [hx] at hn;cases hn
   | some p =>
    obtain ⟨k,r⟩:=p
    rw [hx] at hn
    simp only at hn
    by_cases hc:k<0∨(m:Int)<k
    ·rw [if_pos hc] at hn;cases hn
    ·rw [if_neg hc] at hn;cases hn;omega
  have HQ:=hid hQ
  have HR0:=hid hr
  have HG0:=hid hg
  clear hn hQ hr hg h
  go_upto_region 3 with fail
  go_loopw [5,9] (fun t5 t9 wr=>∃ (i j:Nat) (a:Option Addr) (c:Nat) (L l:List Nat),t9=.int .i64 (i:Nat)∧t5=.slice a j c∧i≤n∧Hid (j=i)∧Hid (L.length=i)∧Hid (getMany getKey i r0=some (L,l))∧Hid (RAt B R l wr)∧Hid (wr.ownsRow w.heap.size 57 1 (.slice a j c) j (K.fCells L))∧Hid (w.grownBy wr (some R))) (fun _ t9 _=>n-(intOf t9).toNat)
  case atStart=>exact ⟨0,0,none,0,[],r0,rfl,rfl,Nat.zero_le _,hid rfl,hid rfl,hid rfl,HR0,hid ⟨rfl,.inl ⟨rfl,rfl⟩⟩,HG0⟩
  case round =>
   obtain ⟨i,j,a,c,L,l,rfl,rfl,hi,HJ,HL,HM,HA,HW,HG⟩:=hrel
   by_cases hlt:i<n
   ·have hlt':(i:Int)<(n:Int):=by omega
    go_upto_region 4 with fail
    go_wp2_with fail
    refine (key_any B R l wr HA.out).mono ?_
    intro e w2 h2
    cases hk:getKey l with
    | none =>
     have hq:q=none:=by
      rw [←HQ.out]
      have:getMany getKey (i+1) r0=none:=by rw [getMany,HM.out];simp only;rw [hk]
      have:=many_none (k:=n-(i+1)) this
      rwa [show i+1+(n-(i+1))=n by omega] at this
     subst hq
     rw [hk] at h2
     obtain ⟨rfl,hg⟩:=h2
     have HG2:=hid (HG.out.trans hg)
     go_wp2_with fail
     exact ⟨rfl,rfl,HG2.out⟩
    | some p =>
     obtain ⟨x,r⟩:=p
     rw [hk] at h2
     obtain ⟨rfl,hr2,hg2⟩:=h2
     have HM2:Hid (getMany getKey (i+1) r0=some (L++[x],r)):=hid (by rw [getMany,HM.out];simp only;rw [hk])
     have hg02:=HG.out.trans hg2
     have hz2:=hg02.size
     have hown2:=HW.out.kept hg2 (.inr fun e=>by have:=(HW.out.lt _ e).1;omega)
     obtain ⟨a',c',w3,hrun,hown3,hb3⟩:=K.appF x (show L.length=j by rw [HL.out,HJ.out]) hown2 hz2 (by have:=HJ.out;omega)
     have HW3:=hid hown3
     have HR3:=hid (hr2.below hb3 hRl)
     have HG3:=hid (grown_below hg02 hb3 (Nat.le_refl _))
     have HJ2:Hid (j+1=i+1):=hid (by rw [HJ.out])
     have HL2:Hid ((L++[x]).length=i+1):=hid (by rw [List.length_append,HL.out];rfl)
     clear hown2 hown3 hg2 hg02 hb3 hr2 hk
     go_wp2_with (at_builtin;refine Lib.wpList_append_run _ rfl _ _ _ _ rfl _ _ rfl rfl _ _ (hrun _) ?_)
     go_roundw
     case rel=>exact ⟨i+1,j+1,a',c',L++[x],r,by go_num,rfl,by omega,HJ2,HL2,HM2,HR3,HW3,HG3⟩
     case measure=>simp [intOf];omega
   ·obtain rfl:i=n:=by omega
    have hq:q=some (L,l):=by rw [←HQ.out,HM.out]
    subst hq
    obtain rfl:j=L.length:=by rw [HJ.out,HL.out]
    go_wp2_with fail
    exact bodyPost_ret (v:=.slice a L.length c) (by simp [results,Tryz.results147,go_sem]) rfl ⟨a,c,rfl,HW.out,HA.out,HG.out⟩

end Go.Proofs.YtdeeoddacnealaaGreat.P