/- Several texts as one: PY PZ. -/
import Derived.Test.YtdeeoddacnealaaGreatQ0
import Derived.Test.YtdeeoddacnealaaGreatMPA
import Derived.Test.YtdeeoddacnealaaGreatMNC
import Derived.Test.YtdeeoddacnealaaGreatMPE
import Derived.Test.YtdeeoddacnealaaGreatMCH
set_option linter.unusedVariables false
set_option linter.unusedSimpArgs false
namespace Go.Proofs.YtdeeoddacnealaaGreat.P
open Go.RowKit Fl

theorem blk_cell {w w':World} {b:Nat} (h:w'.heap[b]? = w.heap[b]?) (j:Nat):w'.cell? ⟨b,j,none⟩=w.cell? ⟨b,j,none⟩:=by simp only [World.cell?,h]
theorem Grew.trans {w w1 w2:World} {v v1 v2:Value} (h:Grew w w1 v v1) (k:Grew w1 w2 v1 v2):Grew w w2 v v2:=by
 obtain ⟨h1,h2⟩:=h
 obtain ⟨k1,k2⟩:=k
 refine ⟨⟨k1.os.trans h1.os,k1.tape.trans h1.tape,k1.output.trans h1.output,Nat.le_trans h1.size k1.size,fun b hb hn=>?_⟩,?_⟩
 ·refine (k1.block b (Nat.lt_of_lt_of_le hb h1.size) fun e=>?_).trans (h1.block b hb hn)
  rcases h2 with h2|h2|⟨g,h2,hg⟩
  ·exact hn (e.trans h2)
  ·rw [h2] at e;cases e
  ·rw [h2] at e;cases e;omega
 ·rcases k2 with k2|k2|⟨g,k2,hg⟩
  ·rw [k2];exact h2
  ·exact .inr (.inl k2)
  ·exact .inr (.inr ⟨g,k2,Nat.le_trans h1.size hg⟩)
theorem Grew.below {w w':World} {v v':Value} {B:Nat} (h:Grew w w' v v') (hv:∀ g,v.ownBlock=some g→B≤g) (hB:B≤w.heap.size):Below B w w' :=
 ⟨h.1.os,h.1.tape,h.1.output,h.1.size,fun k hk=>h.1.block k (by omega) fun e=>by have:=hv k e.symm;omega⟩
theorem appG {w:World} {base:Nat} {a:Option Addr} {c n:Nat} {xs:List Nat} (b:Nat) (hn:xs.length=n) (hown:w.ownsRow base 5 1 (.slice a n c) n (bCells xs)) (hbase:base≤w.heap.size) (hl:n≤17592186044414) :
  ∃ a' c' w',(∀ ty,(Builtin.append_ #[59,59] ty #[.slice a n c,.slice (some ⟨w.heap.size,0,none⟩) 1 1]).run Tryz.prog (w.alloc (.cells #[.int .u8 (b:Nat)] 5))=.ok (.slice a' (n+1) c') w') ∧
   w'.ownsRow base 5 1 (.slice a' (n+1) c') (n+1) (bCells (xs++[b]))∧Grew w w' (.slice a n c) (.slice a' (n+1) c'):=by
 obtain ⟨i0,hi0,hz0,hzs,hzb⟩:=info_parts byteInfo
 have hown1:=hown.kept (World.grownBy_alloc w (.cells #[.int .u8 (b:Nat)] 5) none) (by cases (Value.slice a n c).ownBlock <;> simp)
 obtain ⟨v',w',hr,h2,h3⟩:=run_append_own2 (P:=Tryz.prog) (w.alloc (.cells #[.int .u8 (b:Nat)] 5)) base 59 5 i0 _ 1 1 Tryz.underlying59 hi0 hz0 hzs hzb rfl (by omega) _ _ _ hown1 ⟨w.heap.size,0,none⟩ 1 1 [.int .u8 (b:Nat)] rfl
  (fun j u hj=>by
   have hrow:(w.alloc (.cells #[.int .u8 (b:Nat)] 5)).heap[w.heap.size]? = some (.cells #[.int .u8 (b:Nat)] 5 (0,0)):=heap_alloc_new w _
   rw [K.addr0,cell_of_row _ _ j _ _ (0,0) hrow]
   rw [←hj];simp) (by intro u hu;rw [List.mem_singleton.1 hu];rfl) (by omega) (by unfold maxLen;omega) (by omega) (by simp;omega)
 have hc:bCells xs++[.int .u8 (b:Nat)]=bCells (xs++[b]):=by simp [bCells]
 rw [hc] at h2
 obtain ⟨a',c',rfl⟩:=own_sliceB h2
 refine ⟨a',c',w',hr,h2,(World.grownBy_alloc w _ _).trans h3.1,?_⟩
 rcases h3.2 with h|h|⟨g,h,hg⟩
 ·exact .inl h
 ·exact .inr (.inl h)
 ·exact .inr (.inr ⟨g,h,by simp at hg;omega⟩)

def BRet (L:List Nat) (w:World) (e:Ending) (w':World):Prop:=∃ a c,e=.returned (.slice a L.length c)∧w'.ownsRow w.heap.size 5 1 (.slice a L.length c) L.length (bCells L)∧Below w.heap.size w w'
def JRet (B:Nat) (v:Value) (L:List Nat) (w:World) (e:Ending) (w':World):Prop:=∃ a c,e=.returned (.slice a L.length c)∧w'.ownsRow B 5 1 (.slice a L.length c) L.length (bCells L)∧Grew w w' v (.slice a L.length c)

set_option maxRecDepth 100000 in
theorem join_any (B:Nat) (a:Option Addr) (c n:Nat) (l:List Nat) (b:Option Addr) (cb m:Nat) (r:List Nat) (w:World) (hn:l.length=n) (hm:r.length=m) (hown:w.ownsRow B 5 1 (.slice a n c) n (bCells l)) (hB:B≤w.heap.size)
  (hr:BAt w b r) (hd:∀ g,(Value.slice a n c).ownBlock=some g→∀ p,b=some p→p.block≠g) (hl:n+m≤17592186044000) :
  Calls Tryz.prog 67 #[.slice a n c,.slice b m cb] w (JRet B (.slice a n c) (l++r) w):=by
 have HO:=hid hown;have HR:=hid hr;have HD:=hid hd;have HN:=hid hn;have HM:=hid hm
 have HG0:Hid (Grew w w (.slice a n c) (.slice a n c)):=hid ⟨⟨rfl,rfl,rfl,Nat.le_refl _,fun _ _ _=>rfl⟩,.inl rfl⟩
 clear hown hr hd hn hm
 obtain ⟨V,hV⟩:∃ V,V=Value.slice a n c:=⟨_,rfl⟩
 have HV:=hid hV
 rw [←hV] at HG0 HD
 have HL:Hid (∀ g,V.ownBlock=some g→g<w.heap.size):=hid (by rw [hV];exact fun g hg=>(HO.out.lt g hg).2)
 have HQ:Hid (JRet B (Value.slice a n c) (l++r) w=JRet B V (l++r) w):=hid (by rw [hV])
 rw [HQ.out]
 clear hV HQ
 generalize hR:l++r=R
 have HR2:=hid hR
 clear hR
 go_enter Tryz.func67,Tryz.ntmps67
 go_upto_region 2 with fail
 go_loopw [0,5] (fun t0 t5 wr=>∃ (j q:Nat) (L:List Nat) (a':Option Addr) (c':Nat),t0=.slice a' q c'∧t5=.int .i64 (j:Nat)∧j≤m∧Hid (q=n+j)∧Hid (L.length=q)∧Hid (L=l++r.take j)∧Hid (wr.ownsRow B 5 1 (.slice a' q c') q (bCells L))∧Hid (Grew w wr V (.slice a' q c'))) (fun _ t5 _=>m-(intOf t5).toNat)
 case atStart=>exact ⟨0,n,l,a,c,rfl,rfl,Nat.zero_le _,hid rfl,HN,hid (by simp),HO,by rw [←HV.out];exact HG0⟩
 case round =>
  obtain ⟨j,q,L,a',c',rfl,rfl,hj,HQ,HLN,HLL,HW,HG⟩:=hrel
  have hz:=HG.out.1.size
  by_cases hlt:j<m
  ·have hlt':(j:Int)<(m:Int):=by omega
   have hjl:j<r.length:=by rw [HM.out];exact hlt
   rcases HR.out.row with h0|⟨gb,o,hb,hbl,hcl⟩
   ·rw [h0] at hjl;simp at hjl
   subst hb
   have hne:=fun g hg=>HD.out g hg _ rfl
   have k0:wr.cell? ⟨gb,o+j,none⟩=some (.int .u8 (r[j]?.getD 0:Nat)):=(blk_cell (HG.out.1.block gb hbl (fun e=>hne gb e.symm rfl)) _).trans (hcl j hjl)
   have hy:r[j]? = some (r[j]?.getD 0):=by rw [List.getElem?_eq_getElem hjl];rfl
   generalize r[j]?.getD 0=y at *
   obtain ⟨a2,c2,w2,hr,hown2,hg2⟩:=appG y HLN.out HW.out (by omega) (by have:=HQ.out;omega)
   have HO2:=hid hown2
   have HG2:=hid (Grew.trans HG.out hg2)
   have HL2:Hid (L++[y]=l++r.take (j+1)):=hid (by rw [HLL.out,List.take_add_one,hy,List.append_assoc];rfl)
   clear hown2 hg2 hcl hne hy
   go_upto_region 4 with fail
   go_wp2_with (at_builtin;refine Lib.wpList_append_run _ rfl _ _ _ _ rfl _ _ rfl rfl _ _ (hr _) ?_)
   go_roundw
   case rel=>exact ⟨j+1,q+1,L++[y],a2,c2,rfl,by go_num,by omega,hid (by rw [HQ.out];omega),hid (by rw [List.length_append,HLN.out];rfl),HL2,HO2,HG2⟩
   case measure=>simp [intOf];omega
  ·obtain rfl:j=m:=by omega
   have e:R=L:=by rw [←HR2.out,HLL.out,List.take_of_length_le (by rw [HM.out];exact Nat.le_refl _)]
   subst e
   have HLN2:=HLN.out
   subst HLN2
   go_wp2_with fail
   go_ret
   exact ⟨a',c',rfl,HW.out,HG.out⟩
theorem low7 (u:Nat):((u:Int) % 128+128) % 256=((u % 128+128:Nat):Int):=by omega
theorem zig_pos {k:Int} (h0:¬k<0):k * 2=((zig k:Nat):Int):=by unfold zig;rw [if_pos (by omega)];omega
theorem zig_neg {k:Int} (h0:k<0):-(k+1) * 2+1=((zig k:Nat):Int):=by unfold zig;rw [if_neg (by omega)];omega
set_option maxRecDepth 100000 in
theorem docNum_any (k:Int) (w:World) (hk:NumD k):Calls Tryz.prog 141 #[.int .i64 k] w (BRet (numB k) w):=by
 have hzl:=zig_lt hk.1 hk.2
 have hlen:(numB k).length≤10:=by have:=vlq_len 9 (zig k) (by omega);unfold numB;omega
 have HL:=hid hlen
 obtain ⟨R,hR⟩:∃ R,R=numB k:=⟨_,rfl⟩
 rw [←hR] at HL ⊢
 unfold numB at hR
 have HR:=hid hR.symm
 clear hlen hR
 have hkl:=hk.1;have hkh:=hk.2
 by_cases hneg:k<0
 all_goals
  first|have hz:=zig_neg hneg|have hz:=zig_pos hneg
  have HZ:=hid hz
  clear hz
  go_enter Tryz.func141,Tryz.ntmps141
  go_upto_region 5 with fail
  rw [HZ.out]
  generalize zig k=u0 at *
  clear HZ hk hkl hkh hneg
  have HB1:Hid (Below w.heap.size w (w.alloc (.cells #[] 5))):=hid (Below.alloc1 (Nat.le_refl _) (Below.refl _ _) _)
  have HO1:Hid ((w.alloc (.cells #[] 5)).ownsRow w.heap.size 5 1 (.slice (some ⟨w.heap.size,0,none⟩) 0 0) 0 (bCells [])):=hid (World.ownsRow_made w #[] 0 (Nat.le_refl _) (by unfold maxLen;omega) rfl)
  generalize w.alloc (.cells #[] 5)=w1 at *
  go_loopw [3,4] (fun t3 t4 wr=>∃ (L:List Nat) (m u:Nat) (a':Option Addr) (c':Nat),t4=.slice a' m c'∧t3=.int .u64 (u:Nat)∧u<18446744073709551616∧Hid (L.length=m)∧Hid (L++vlq u=R)∧Hid (wr.ownsRow w.heap.size 5 1 (.slice a' m c') m (bCells L))∧Below w.heap.size w wr) (fun t3 _ _=>(intOf t3).toNat)
  case atStart=>exact ⟨[],0,u0,_,_,rfl,rfl,hzl,hid rfl,HR,HO1,HB1.out⟩
  case round =>
   obtain ⟨L,m,u,a',c',rfl,rfl,hu,HM,HQ,HW,hb⟩:=hrel
   have hml:m<100:=by
    have h1:=congrArg List.length HQ.out
    have h3:=HL.out;have h4:=HM.out
    rw [List.length_append] at h1
    omega
   have hz2:=hb.size
   by_cases hlt:u<128
   ·have hlt':¬127<((u:Nat):Int):=by omega
    have e8:=low8 hlt
    obtain ⟨a2,c2,w2,hr,hown2,hb2⟩:=appB u HM.out HW.out hz2 (by omega)
    go_upto_region 8 with fail
    go_wp2_with (at_builtin;refine Lib.wpList_append_run _ rfl _ _ _ _ rfl _ _ rfl rfl _ _ (hr _) ?_)
    go_ret
    have e:R=L++[u]:=by rw [←HQ.out,vlq_lt hlt]
    rw [e]
    unfold BRet
    rw [List.length_append,HM.out]
    exact ⟨a2,c2,rfl,hown2,hb.trans hb2⟩
   ·have hlt':127<((u:Nat):Int):=by omega
    have e8:=low7 u
    obtain ⟨a2,c2,w2,hr,hown2,hb2⟩:=appB (u % 128+128) HM.out HW.out hz2 (by omega)
    have HO2:=hid hown2
    clear hown2
    go_upto_region 6 with fail
    go_wp2_with (at_builtin;refine Lib.wpList_append_run _ rfl _ _ _ _ rfl _ _ rfl rfl _ _ (hr _) ?_)
    go_roundw
    case rel=>exact ⟨L++[u % 128+128],m+1,u / 128,a2,c2,rfl,by go_num,by omega,hid (by rw [List.length_append,HM.out];rfl),hid (by rw [List.append_assoc,List.singleton_append,←vlq_ge hlt];exact HQ.out),HO2,hb.trans hb2⟩
    case measure=>simp [intOf];omega
theorem key_step (u0 i:Nat) (hi:i<8):(keyB u0)[i]? = some (u0 * 256 ^ i % 18446744073709551616 / 72057594037927936)∧u0 * 256 ^ i % 18446744073709551616 * 256 % 18446744073709551616=u0 * 256 ^ (i+1) % 18446744073709551616:=by
 have:i=0∨i=1∨i=2∨i=3∨i=4∨i=5∨i=6∨i=7:=by omega
 rcases this with rfl|rfl|rfl|rfl|rfl|rfl|rfl|rfl <;> simp [keyB] <;> omega
theorem shl_byte {v:Nat}:IntKind.u64.wrap ((v:Int) * 256)=((v * 256 % 18446744073709551616:Nat):Int):=by
 rw [IntKind.wrap_u64];omega
set_option maxRecDepth 100000 in
theorem docKey_any (x:Nat) (w:World) (hx:x<2 ^ 64):Calls Tryz.prog 71 #[.float .f64 x] w (BRet (keyB (codeN x)) w):=by
 have hu:=codeN_lt x
 have hco:=codeN_int x
 have HC:=hid (refCode_any x hx)
 have HCO:=hid hco
 clear hco
 go_enter Tryz.func71,Tryz.ntmps71
 go_upto_region 2 with (go_at_call 145;(with_reducible refine (HC.out _).mono ?_);rintro e w' ⟨rfl,rfl⟩)
 rw [←HCO.out]
 clear HC HCO
 generalize codeN x=u0 at *
 go_upto_region 4 with fail
 have HB1:Hid (Below w.heap.size w (w.alloc (.cells #[] 5))):=hid (Below.alloc1 (Nat.le_refl _) (Below.refl _ _) _)
 have HO1:Hid ((w.alloc (.cells #[] 5)).ownsRow w.heap.size 5 1 (.slice (some ⟨w.heap.size,0,none⟩) 0 0) 0 (bCells [])):=hid (World.ownsRow_made w #[] 0 (Nat.le_refl _) (by unfold maxLen;omega) rfl)
 generalize w.alloc (.cells #[] 5)=w1 at *
 have HU:=hid hu
 clear hu
 go_loopw [3,4,5] (fun t3 t4 t5 wr=>∃ (i m v:Nat) (L:List Nat) (a':Option Addr) (c':Nat),t5=.int .i64 (i:Nat)∧t4=.slice a' m c'∧t3=.int .u64 (v:Nat)∧i≤8∧Hid (m=i)∧Hid (v=u0 * 256 ^ i % 18446744073709551616)∧Hid (L=(keyB u0).take i)∧Hid (L.length=m)∧Hid (wr.ownsRow w.heap.size 5 1 (.slice a' m c') m (bCells L))∧Below w.heap.size w wr) (fun _ _ t5 _=>8-(intOf t5).toNat)
 case atStart=>exact ⟨0,0,u0,[],_,_,rfl,rfl,rfl,by omega,hid rfl,hid (by have:=HU.out;omega),hid rfl,hid rfl,HO1,HB1.out⟩
 case round =>
  obtain ⟨i,m,v,L,a',c',rfl,rfl,rfl,hi,HM,HV,HL,HLN,HW,hb⟩:=hrel
  have hz2:=hb.size
  by_cases hlt:i<8
  ·have hlt':(i:Int)<8:=by omega
   obtain ⟨hk1,hk2⟩:=key_step u0 i hlt
   rw [←HV.out] at hk1 hk2
   have hv:v<18446744073709551616:=by rw [HV.out];exact Nat.mod_lt _ (by decide)
   have e1:(v:Int) / 72057594037927936=((v / 72057594037927936:Nat):Int):=by omega
   have hd:((v / 72057594037927936:Nat):Int)<256:=by omega
   have e3:=shl_byte (v:=v)
   have HV2:=hid hk2
   have HL2:Hid (L++[v / 72057594037927936]=(keyB u0).take (i+1)):=hid (by rw [HL.out,List.take_add_one,hk1];rfl)
   clear hk1 hk2
   generalize v / 72057594037927936=d at *
   generalize v * 256 % 18446744073709551616=v2 at *
   obtain ⟨a2,c2,w2,hr,hown2,hb2⟩:=appB d HLN.out HW.out hz2 (by have:=HM.out;omega)
   have HO2:=hid hown2
   clear hown2
   go_upto_region 6 with fail
   go_wp2_with (at_builtin;refine Lib.wpList_append_run _ rfl _ _ _ _ rfl _ _ rfl rfl _ _ (hr _) ?_)
   go_roundw
   case rel=>exact ⟨i+1,m+1,v2,_,a2,c2,by go_num,rfl,rfl,by omega,hid (by rw [HM.out]),HV2,HL2,hid (by rw [List.length_append,HLN.out];rfl),HO2,hb.trans hb2⟩
   case measure=>simp [intOf];omega
  ·obtain rfl:i=8:=by omega
   have e:L=keyB u0:=by rw [HL.out,List.take_of_length_le (by rw [keyB_len];omega)]
   subst e
   have hm8:=HLN.out
   subst hm8
   go_wp2_with fail
   go_ret
   exact ⟨a',c',rfl,HW.out,hb⟩

def JB (B:Nat) (L:List Nat) (w:World) (e:Ending) (w':World):Prop:=∃ a c,e=.returned (.slice a L.length c)∧w'.ownsRow B 5 1 (.slice a L.length c) L.length (bCells L)∧Below B w w'
theorem join_new (B:Nat) (a:Option Addr) (c n:Nat) (l:List Nat) (a2:Option Addr) (c2 m:Nat) (r:List Nat) (C:Nat) (w w2:World) (hn:l.length=n) (hm:r.length=m) (hown:w.ownsRow B 5 1 (.slice a n c) n (bCells l)) (hB:B≤w.heap.size) (hC:w.heap.size≤C)
  (ho2:w2.ownsRow C 5 1 (.slice a2 m c2) m (bCells r)) (hb2:Below w.heap.size w w2) (hlt:∀ x∈r,x<256) (hl:n+m≤17592186044000) :
  Calls Tryz.prog 67 #[.slice a n c,.slice a2 m c2] w2 (JB B (l++r) w2):=by
 have hz:=hb2.size
 have ho1:=hown.kept (K.grown_of_below hb2) (by cases (Value.slice a n c).ownBlock <;> simp)
 refine (join_any B a c n l a2 c2 m r w2 hn hm ho1 (by omega) (own_bat hm ho2 (by omega) hlt) ?_ hl).mono ?_
 ·intro g hg p hp e
  have h1:=(hown.lt g hg).2
  subst hp
  have h2:=(ho2.lt p.block rfl).1
  omega
 ·rintro e w' ⟨a',c',he,ho,hg⟩
  exact ⟨a',c',he,ho,Grew.below (v:=.slice a n c) (v':=.slice a' (l++r).length c') hg (fun g hg=>(ho1.lt g hg).1) (by omega)⟩
theorem numB_byte (k:Int):∀ x∈numB k,x<256:=vlq_byte _
theorem keyB_byte (u:Nat):∀ x∈keyB u,x<256:=by
 intro x hx
 simp only [keyB,List.mem_cons,List.not_mem_nil,or_false] at hx
 rcases hx with rfl|rfl|rfl|rfl|rfl|rfl|rfl|rfl <;> omega
def keysB (xs:List Nat):List Nat:=numB xs.length++xs.flatMap fun x=>keyB (codeN x)
theorem flatK_len (xs:List Nat):(xs.flatMap fun x=>keyB (codeN x)).length=xs.length * 8:=by
 induction xs with
 | nil=>rfl
 | cons x xs ih=>rw [List.flatMap_cons,List.length_append,ih,keyB_len,List.length_cons];omega
theorem keysB_len (xs:List Nat) (h:xs.length≤2000000):(keysB xs).length≤10+8 * xs.length:=by
 unfold keysB
 rw [List.length_append]
 have h1:=numB_len (n:=xs.length) ⟨by omega,by omega⟩
 have h2:(xs.flatMap fun x=>keyB (codeN x)).length=xs.length * 8:=flatK_len xs
 omega
theorem flat_byte (xs:List Nat):∀ y∈xs.flatMap (fun x=>keyB (codeN x)),y<256:=by
 intro y hy
 obtain ⟨x,_,h⟩:=List.mem_flatMap.1 hy
 exact keyB_byte _ y h
theorem keysB_byte (xs:List Nat):∀ x∈keysB xs,x<256:=by
 intro x hx
 rcases List.mem_append.1 hx with h|h
 ·exact numB_byte _ x h
 ·exact flat_byte _ x h
set_option maxRecDepth 100000 in
theorem docKeys_any (a:Option Addr) (c n:Nat) (xs:List Nat) (w:World) (hn:xs.length=n) (h:FAt w a xs) (hl:n≤2000000) :
  Calls Tryz.prog 142 #[.slice a n c] w (BRet (keysB xs) w):=by
 have HN:=hid hn;have HF:=hid h
 have HK:Hid (keysB xs=numB n++xs.flatMap fun x=>keyB (codeN x)):=hid (by unfold keysB;rw [hn])
 clear hn h
 rw [HK.out]
 generalize hR:numB n++xs.flatMap (fun x=>keyB (codeN x))=R
 have HR:=hid hR
 have HLR:Hid (R.length≤10+8 * n):=hid (by rw [←hR,←HK.out,←HN.out];exact keysB_len xs (by rw [HN.out];exact hl))
 clear hR HK
 go_enter Tryz.func142,Tryz.ntmps142
 go_wp2_with fail
 refine (docNum_any n w ⟨by omega,by omega⟩).mono ?_
 rintro e w1 ⟨a1,c1,rfl,ho1,hb1⟩
 have HO1:=hid ho1
 have HL0:Hid (numB n++(xs.take 0).flatMap (fun x=>keyB (codeN x))=numB n):=hid (by simp)
 generalize hq0:(numB n).length=q0 at *
 have HQ0:=hid hq0
 clear ho1 hq0
 go_upto_region 3 with fail
 go_loopw [3,4] (fun t3 t4 wr=>∃ (i q:Nat) (L:List Nat) (a':Option Addr) (c':Nat),t3=.slice a' q c'∧t4=.int .i64 (i:Nat)∧i≤n∧Hid (L.length=q)∧Hid (L=numB n++(xs.take i).flatMap (fun x=>keyB (codeN x)))∧Hid (wr.ownsRow w.heap.size 5 1 (.slice a' q c') q (bCells L))∧Below w.heap.size w wr) (fun _ t4 _=>n-(intOf t4).toNat)
 case atStart=>exact ⟨0,q0,numB n,a1,c1,rfl,rfl,Nat.zero_le _,HQ0,hid HL0.out.symm,HO1,hb1⟩
 case round =>
  obtain ⟨i,q,L,a',c',rfl,rfl,hi,HQ,HL,HW,hb⟩:=hrel
  have hz:=hb.size
  by_cases hlt:i<n
  ·have hlt':(i:Int)<(n:Int):=by omega
   have hil:i<xs.length:=by rw [HN.out];exact hlt
   rcases HF.out.row with h0|⟨gb,o,ha,hbl,hcl⟩
   ·rw [h0] at hil;simp at hil
   subst ha
   have k0:=(hb.cell (p:=⟨gb,o+i,none⟩) hbl).trans (hcl i hil)
   have hy:xs[i]? = some (xs[i]?.getD 0):=by rw [List.getElem?_eq_getElem hil];rfl
   have hxl:=HF.out.lt i hil
   generalize xs[i]?.getD 0=y at *
   have HL2:Hid (L++keyB (codeN y)=numB n++(xs.take (i+1)).flatMap (fun x=>keyB (codeN x))):=hid (by rw [HL.out,List.take_add_one,hy,List.flatMap_append,List.append_assoc];simp)
   have HQ9:Hid (q≤10+8 * i):=hid (by
    have h1:=numB_len (n:=n) ⟨by omega,by omega⟩
    have h2:((xs.take i).flatMap fun x=>keyB (codeN x)).length=(xs.take i).length * 8:=flatK_len _
    rw [←HQ.out,HL.out,List.length_append,h2,List.length_take];omega)
   clear hcl hy
   go_upto_region 5 with fail
   go_wp2_with fail
   refine (docKey_any y wr hxl).mono ?_
   rintro e w2 ⟨a2,c2,rfl,ho2,hb2⟩
   have HJ:=hid (join_new w.heap.size a' c' q L a2 c2 _ _ wr.heap.size wr w2 HQ.out rfl HW.out hz (Nat.le_refl _) ho2 hb2 (keyB_byte _) (by rw [keyB_len];have:=HQ9.out;omega))
   have hz2:=hb2.size
   clear ho2
   generalize (keyB (codeN y)).length=m8 at *
   go_wp2_with fail
   refine HJ.out.mono ?_
   rintro e w3 ⟨a3,c3,rfl,ho3,hb3⟩
   have HO3:=hid ho3
   clear ho3 HJ
   generalize hq3:(L++keyB (codeN y)).length=q3 at *
   have HQ3:=hid hq3
   clear hq3
   have hb23:=(hb.trans (hb2.mono hz)).trans hb3
   go_wp2_with fail
   go_roundw
   case rel=>exact ⟨i+1,q3,_,a3,c3,rfl,by go_num,by omega,HQ3,HL2,HO3,hb23⟩
   case measure=>simp [intOf];omega
  ·obtain rfl:i=n:=by omega
   have e:L=R:=by rw [←HR.out,HL.out,List.take_of_length_le (by rw [HN.out];exact Nat.le_refl _)]
   subst e
   have hq:=HQ.out
   subst hq
   go_wp2_with fail
   go_ret
   exact ⟨a',c',rfl,HW.out,hb⟩

def OwnB (B:Nat) (v:Value) (L:List Nat) (w:World):Prop:=∃ a c,v=.slice a L.length c∧w.ownsRow B 5 1 (.slice a L.length c) L.length (bCells L)
def NumsR (Y:World) (A B C D E:List Nat):List Value→World→Prop
 | [],X=>X=Y
 | [v0],X=>OwnB Y.heap.size v0 A X∧Below Y.heap.size Y X
 | [v0,v1],X=>(∃ W,OwnB Y.heap.size v0 A W∧Y.heap.size≤W.heap.size∧OwnB W.heap.size v1 B X∧Below W.heap.size W X)∧Below Y.heap.size Y X
 | [_,_,v2],X=>OwnB Y.heap.size v2 C X∧Below Y.heap.size Y X
 | [_,_,v2,v3],X=>(∃ W,OwnB Y.heap.size v2 C W∧Y.heap.size≤W.heap.size∧OwnB W.heap.size v3 D X∧Below W.heap.size W X)∧Below Y.heap.size Y X
 | [_,_,_,_,v4],X=>OwnB Y.heap.size v4 E X∧Below Y.heap.size Y X
 | _,_=>False
theorem NumsR.b {Y X:World} {A B C D E:List Nat}:∀ {ms:List Value},NumsR Y A B C D E ms X→Below Y.heap.size Y X
 | [],h=>by cases h;exact Below.refl _ _
 | [_],h=>h.2
 | [_,_],h=>h.2
 | [_,_,_],h=>h.2
 | [_,_,_,_],h=>h.2
 | [_,_,_,_,_],h=>h.2
 | _ :: _ :: _ :: _ :: _ :: _ :: _,h=>h.elim
def docB (x:SubV):List Nat:=numB x.s0++numB x.s1++numB x.s2++keysB x.rs++numB x.ss.length++x.ss.flatMap (fun s=>keyB (codeN s.lo)++keyB (codeN s.hi))++keysB x.ws
set_option maxHeartbeats 1000000 in
set_option maxRecDepth 100000 in
theorem docBytes_gen (x:SubV) (w:World) (h:x.At w) (D0:NumD x.s0) (D1:NumD x.s1) (D2:NumD x.s2) (l1:x.rs.length≤1100000) (l2:x.ss.length≤1100000) (l3:x.ws.length≤1100000) :
  Calls Tryz.prog 66 #[.agg #[.int .i64 x.s0,.int .i64 x.s1,.int .i64 x.s2,.slice x.ra x.rs.length x.rc,.slice x.sa x.ss.length x.sc,.slice x.wa x.ws.length x.wc]] w (BRet (docB x) w):=by
 unfold docB
 obtain ⟨R,hR0⟩:∃ R,R=numB x.s0++numB x.s1++numB x.s2++keysB x.rs++numB x.ss.length++x.ss.flatMap (fun s=>keyB (codeN s.lo)++keyB (codeN s.hi))++keysB x.ws:=⟨_,rfl⟩
 rw [←hR0]
 have HR0:=hid hR0
 clear hR0
 have HX:=hid h;have HL1:=hid l1;have HL2:=hid l2;have HL3:=hid l3;have HD0:=hid D0;have HD1:=hid D1;have HD2:=hid D2
 clear h l1 l2 l3 D0 D1 D2
 go_enter Tryz.func66,Tryz.ntmps66
 go_upto_region 1 with fail
 generalize hW1:World.alloc _ _=w1 at *
 have hA:Below w.heap.size w w1:=by rw [←hW1];exact below_auto
 have hz1:w.heap.size<w1.heap.size:=by rw [←hW1];simp
 have q1:w1.heap[w.heap.size]? = some (.cells #[.int .i64 x.s0,.int .i64 x.s1,.int .i64 x.s2,.slice x.ra x.rs.length x.rc,.slice x.sa x.ss.length x.sc,.slice x.wa x.ws.length x.wc] 41 (0,0)):=by rw [←hW1];simpa using heap_alloc_new w _
 clear hW1
 have BX:=hid fun W (hb:Below w1.heap.size w1 W)=>box6 ((hb.block _ hz1).trans q1)
 have AX:=hid fun W (hb:Below w1.heap.size w1 W)=>HX.out.below (hA.trans (hb.mono hA.size))
 obtain ⟨Y0,hY0⟩:∃ Y:World,Y = { w1 with drawn:=w1.drawn+1 }:=⟨_,rfl⟩
 have hb0:Below w1.heap.size w1 Y0:=by rw [hY0];exact Below.drew (Below.refl _ w1)
 have z0:Y0.heap.size=w1.heap.size:=by rw [hY0]
 have HY0:=hid hY0;have HB0:=hid hb0;have HZ0:=hid z0
 have toW:=hid fun X (hb:Below Y0.heap.size Y0 X)=>hb0.trans (hb.mono (Nat.le_of_eq z0.symm))
 clear hY0 hb0 z0 q1
 obtain ⟨A,hA0⟩:∃ L,L=numB x.s0:=⟨_,rfl⟩
 obtain ⟨B,hB0⟩:∃ L,L=numB x.s1:=⟨_,rfl⟩
 obtain ⟨D,hD0⟩:∃ L,L=numB x.s2:=⟨_,rfl⟩
 obtain ⟨C,hC0⟩:∃ L,L=A++B:=⟨_,rfl⟩
 obtain ⟨E,hE0⟩:∃ L,L=C++D:=⟨_,rfl⟩
 have NA:∀ W,Calls Tryz.prog 141 #[.int .i64 x.s0] W (BRet A W):=fun W=>by rw [hA0];exact docNum_any x.s0 W HD0.out
 have NB:∀ W,Calls Tryz.prog 141 #[.int .i64 x.s1] W (BRet B W):=fun W=>by rw [hB0];exact docNum_any x.s1 W HD1.out
 have ND:∀ W,Calls Tryz.prog 141 #[.int .i64 x.s2] W (BRet D W):=fun W=>by rw [hD0];exact docNum_any x.s2 W HD2.out
 have LA:A.length≤10:=by rw [hA0];exact numB_len HD0.out
 have LB:B.length≤10:=by rw [hB0];exact numB_len HD1.out
 have LD:D.length≤10:=by rw [hD0];exact numB_len HD2.out
 have LC:C.length≤20:=by rw [hC0,List.length_append];omega
 have LE:E.length≤30:=by rw [hE0,List.length_append];omega
 have YB:∀ y∈B,y<256:=by rw [hB0];exact numB_byte _
 have YD:∀ y∈D,y<256:=by rw [hD0];exact numB_byte _
 have HEQ:Hid (numB x.s0++numB x.s1++numB x.s2=E):=hid (by rw [hE0,hC0,hA0,hB0,hD0])
 have HC0:=hid hC0;have HE0:=hid hE0
 have HNA:=hid NA;have HNB:=hid NB;have HND:=hid ND;have HYB:=hid YB;have HYD:=hid YD
 clear NA NB ND YB YD hA0 hB0 hC0 hD0 hE0
 refine wp_region_chainV [(0,fun _=>.pointer (some ⟨w.heap.size,0,none⟩)),(0,fun _=>.int .i64 x.s0),(1,fun ms=>ms.getD 0 undef),(0,fun _=>.pointer (some ⟨w.heap.size,1,none⟩)),(0,fun _=>.int .i64 x.s1),(2,fun ms=>ms.getD 1 undef),(3,fun ms=>ms.getD 2 undef),(0,fun _=>.pointer (some ⟨w.heap.size,2,none⟩)),(0,fun _=>.int .i64 x.s2),(4,fun ms=>ms.getD 3 undef),(5,fun ms=>ms.getD 4 undef),(5,fun ms=>ms.getD 4 undef)] (NumsR Y0 A B C D E) (fun _ _=>False) [2,5,6,9,10] rfl (by kernel_rfl) (by kernel_rfl) (by kernel_rfl) (by decide) (by decide) HY0.out.symm ?_ ?_ ?_
 ·simp only [StepsV,List.nil_append,List.cons_append,Nat.zero_add,Nat.reduceAdd]
  refine ⟨?p0,?l0,?c0,?p1,?l1,?c1,?j1,?p2,?l2,?c2,?j2,?mv,trivial⟩
  case p0 =>
   intro ms X g1 g2 hx
   simp only [moreV,gotV,List.mem_cons,List.not_mem_nil,Nat.reduceEqDiff,or_false,or_true,or_self,if_true,if_false,Option.isNone_some,Bool.false_eq_true,List.nil_append,List.cons_append]
   generalize hR:(fun v w'=>(_→v=_)∧_)=RR
   have HR:=hid hR
   have HXX:=hid hx
   clear hR g1 g2 hx
   try simp only [putsFrom,Act.put,qA,qB,qC,Nat.zero_add,Nat.reduceAdd,uv,List.getElem?_cons_zero,List.getElem?_cons_succ,List.take_succ_cons,List.take_zero,List.getD_cons_zero,List.getD_cons_succ]
   go_wp2_with fail
   have hR:=HR.out
   subst hR
   exact ⟨rfl,fun _=>rfl,HXX.out⟩
  case l0 =>
   intro ms X g1 g2 hx
   have hb:=toW.out X hx.b
   obtain ⟨b0,b1,b2,b3,b4,b5⟩:=BX.out X hb
   simp only [moreV,gotV,List.mem_cons,List.not_mem_nil,Nat.reduceEqDiff,or_false,or_true,or_self,if_true,if_false,Option.isNone_some,Bool.false_eq_true,List.nil_append,List.cons_append]
   generalize hR:(fun v w'=>(_→v=_)∧_)=RR
   have HR:=hid hR
   have HXX:=hid hx
   clear hR g1 g2 hx hb b3 b4 b5
   try simp only [putsFrom,Act.put,qA,qB,qC,Nat.zero_add,Nat.reduceAdd,uv,List.getElem?_cons_zero,List.getElem?_cons_succ,List.take_succ_cons,List.take_zero,List.getD_cons_zero,List.getD_cons_succ]
   go_wp2_with fail
   have hR:=HR.out
   subst hR
   exact ⟨rfl,fun _=>rfl,HXX.out⟩
  case c0 =>
   intro ms X g1 g2 hx
   have hl:ms.length=0:=Nat.le_antisymm (Nat.le_trans g2 (by decide +kernel)) (Nat.le_trans (by decide +kernel) g1)
   obtain rfl:=ls0 hl
   obtain rfl:Y0=X:=Eq.symm hx
   simp only [moreV,gotV,List.mem_cons,List.not_mem_nil,Nat.reduceEqDiff,or_false,or_true,or_self,if_true,if_false,Option.isNone_some,Bool.false_eq_true,List.nil_append,List.cons_append]
   generalize hR:(fun v w'=>(_→v=_)∧_)=RR
   have HR:=hid hR
   clear hR g1 g2 hl
   simp only [putsFrom,Act.put,qA,qB,qC,Nat.zero_add,Nat.reduceAdd,uv,List.getElem?_cons_zero,List.getElem?_cons_succ,List.take_succ_cons,List.take_zero,List.getD_cons_zero,List.getD_cons_succ]
   have HC:=hid (HNA.out Y0)
   go_wp2_with fail
   refine HC.out.mono ?_
   rintro e X2 ⟨a,c,rfl,ho,hb⟩
   have HE:Hid (NumsR Y0 A B C D E [.slice a A.length c] X2):=hid ⟨⟨a,c,rfl,ho⟩,hb⟩
   clear HC
   go_wp2_with fail
   have hR:=HR.out
   subst hR
   exact ⟨rfl,fun _=>rfl,HE.out⟩
  case p1 =>
   intro ms X g1 g2 hx
   simp only [moreV,gotV,List.mem_cons,List.not_mem_nil,Nat.reduceEqDiff,or_false,or_true,or_self,if_true,if_false,Option.isNone_some,Bool.false_eq_true,List.nil_append,List.cons_append]
   generalize hR:(fun v w'=>(_→v=_)∧_)=RR
   have HR:=hid hR
   have HXX:=hid hx
   clear hR g1 g2 hx
   try simp only [putsFrom,Act.put,qA,qB,qC,Nat.zero_add,Nat.reduceAdd,uv,List.getElem?_cons_zero,List.getElem?_cons_succ,List.take_succ_cons,List.take_zero,List.getD_cons_zero,List.getD_cons_succ]
   go_wp2_with fail
   have hR:=HR.out
   subst hR
   exact ⟨rfl,fun _=>rfl,HXX.out⟩
  case l1 =>
   intro ms X g1 g2 hx
   have hb:=toW.out X hx.b
   obtain ⟨b0,b1,b2,b3,b4,b5⟩:=BX.out X hb
   simp only [moreV,gotV,List.mem_cons,List.not_mem_nil,Nat.reduceEqDiff,or_false,or_true,or_self,if_true,if_false,Option.isNone_some,Bool.false_eq_true,List.nil_append,List.cons_append]
   generalize hR:(fun v w'=>(_→v=_)∧_)=RR
   have HR:=hid hR
   have HXX:=hid hx
   clear hR g1 g2 hx hb b3 b4 b5
   try simp only [putsFrom,Act.put,qA,qB,qC,Nat.zero_add,Nat.reduceAdd,uv,List.getElem?_cons_zero,List.getElem?_cons_succ,List.take_succ_cons,List.take_zero,List.getD_cons_zero,List.getD_cons_succ]
   go_wp2_with fail
   have hR:=HR.out
   subst hR
   exact ⟨rfl,fun _=>rfl,HXX.out⟩
  case c1 =>
   intro ms X g1 g2 hx
   have hl:ms.length=1:=Nat.le_antisymm (Nat.le_trans g2 (by decide +kernel)) (Nat.le_trans (by decide +kernel) g1)
   obtain ⟨v0,rfl⟩:=ls1 hl
   obtain ⟨h0,hb0⟩:=hx
   simp only [moreV,gotV,List.mem_cons,List.not_mem_nil,Nat.reduceEqDiff,or_false,or_true,or_self,if_true,if_false,Option.isNone_some,Bool.false_eq_true,List.nil_append,List.cons_append]
   generalize hR:(fun v w'=>(_→v=_)∧_)=RR
   have HR:=hid hR
   clear hR g1 g2 hl
   simp only [putsFrom,Act.put,qA,qB,qC,Nat.zero_add,Nat.reduceAdd,uv,List.getElem?_cons_zero,List.getElem?_cons_succ,List.take_succ_cons,List.take_zero,List.getD_cons_zero,List.getD_cons_succ]
   have HC:=hid (HNB.out X)
   go_wp2_with fail
   refine HC.out.mono ?_
   rintro e X2 ⟨a,c,rfl,ho,hb⟩
   have HE:Hid (NumsR Y0 A B C D E [v0,.slice a B.length c] X2):=hid ⟨⟨X,h0,hb0.size,⟨a,c,rfl,ho⟩,hb⟩,hb0.trans (hb.mono hb0.size)⟩
   clear HC
   go_wp2_with fail
   have hR:=HR.out
   subst hR
   exact ⟨rfl,fun _=>rfl,HE.out⟩
  case j1 =>
   intro ms X g1 g2 hx
   have hl:ms.length=2:=Nat.le_antisymm (Nat.le_trans g2 (by decide +kernel)) (Nat.le_trans (by decide +kernel) g1)
   obtain ⟨v0,v1,rfl⟩:=ls2 hl
   obtain ⟨⟨W,⟨a0,c0,rfl,ho0⟩,hzW,⟨a1,c1,rfl,ho1⟩,hbW⟩,hbX⟩:=hx
   simp only [moreV,gotV,List.mem_cons,List.not_mem_nil,Nat.reduceEqDiff,or_false,or_true,or_self,if_true,if_false,Option.isNone_some,Bool.false_eq_true,List.nil_append,List.cons_append]
   generalize hR:(fun v w'=>(_→v=_)∧_)=RR
   have HR:=hid hR
   clear hR g1 g2 hl
   simp only [putsFrom,Act.put,qA,qB,qC,Nat.zero_add,Nat.reduceAdd,uv,List.getElem?_cons_zero,List.getElem?_cons_succ,List.take_succ_cons,List.take_zero,List.getD_cons_zero,List.getD_cons_succ]
   have HC:=hid (show Calls _ _ _ _ (JB _ C X) from (by rw [HC0.out];exact join_new Y0.heap.size a0 c0 _ A a1 c1 _ B W.heap.size W X rfl rfl ho0 hzW (Nat.le_refl _) ho1 hbW HYB.out (by omega)))
   go_wp2_with fail
   refine HC.out.mono ?_
   rintro e X2 ⟨a,c,rfl,ho,hb⟩
   have HE:Hid (NumsR Y0 A B C D E [.slice a0 A.length c0,.slice a1 B.length c1,.slice a C.length c] X2):=hid ⟨⟨a,c,rfl,ho⟩,hbX.trans hb⟩
   clear HC
   go_wp2_with fail
   have hR:=HR.out
   subst hR
   exact ⟨rfl,fun _=>rfl,HE.out⟩
  case p2 =>
   intro ms X g1 g2 hx
   simp only [moreV,gotV,List.mem_cons,List.not_mem_nil,Nat.reduceEqDiff,or_false,or_true,or_self,if_true,if_false,Option.isNone_some,Bool.false_eq_true,List.nil_append,List.cons_append]
   generalize hR:(fun v w'=>(_→v=_)∧_)=RR
   have HR:=hid hR
   have HXX:=hid hx
   clear hR g1 g2 hx
   try simp only [putsFrom,Act.put,qA,qB,qC,Nat.zero_add,Nat.reduceAdd,uv,List.getElem?_cons_zero,List.getElem?_cons_succ,List.take_succ_cons,List.take_zero,List.getD_cons_zero,List.getD_cons_succ]
   go_wp2_with fail
   have hR:=HR.out
   subst hR
   exact ⟨rfl,fun _=>rfl,HXX.out⟩
  case l2 =>
   intro ms X g1 g2 hx
   have hb:=toW.out X hx.b
   obtain ⟨b0,b1,b2,b3,b4,b5⟩:=BX.out X hb
   simp only [moreV,gotV,List.mem_cons,List.not_mem_nil,Nat.reduceEqDiff,or_false,or_true,or_self,if_true,if_false,Option.isNone_some,Bool.false_eq_true,List.nil_append,List.cons_append]
   generalize hR:(fun v w'=>(_→v=_)∧_)=RR
   have HR:=hid hR
   have HXX:=hid hx
   clear hR g1 g2 hx hb b3 b4 b5
   try simp only [putsFrom,Act.put,qA,qB,qC,Nat.zero_add,Nat.reduceAdd,uv,List.getElem?_cons_zero,List.getElem?_cons_succ,List.take_succ_cons,List.take_zero,List.getD_cons_zero,List.getD_cons_succ]
   go_wp2_with fail
   have hR:=HR.out
   subst hR
   exact ⟨rfl,fun _=>rfl,HXX.out⟩
  case c2 =>
   intro ms X g1 g2 hx
   have hl:ms.length=3:=Nat.le_antisymm (Nat.le_trans g2 (by decide +kernel)) (Nat.le_trans (by decide +kernel) g1)
   obtain ⟨v0,v1,v2,rfl⟩:=ls3 hl
   obtain ⟨h0,hb0⟩:=hx
   simp only [moreV,gotV,List.mem_cons,List.not_mem_nil,Nat.reduceEqDiff,or_false,or_true,or_self,if_true,if_false,Option.isNone_some,Bool.false_eq_true,List.nil_append,List.cons_append]
   generalize hR:(fun v w'=>(_→v=_)∧_)=RR
   have HR:=hid hR
   clear hR g1 g2 hl
   simp only [putsFrom,Act.put,qA,qB,qC,Nat.zero_add,Nat.reduceAdd,uv,List.getElem?_cons_zero,List.getElem?_cons_succ,List.take_succ_cons,List.take_zero,List.getD_cons_zero,List.getD_cons_succ]
   have HC:=hid (HND.out X)
   go_wp2_with fail
   refine HC.out.mono ?_
   rintro e X2 ⟨a,c,rfl,ho,hb⟩
   have HE:Hid (NumsR Y0 A B C D E [v0,v1,v2,.slice a D.length c] X2):=hid ⟨⟨X,h0,hb0.size,⟨a,c,rfl,ho⟩,hb⟩,hb0.trans (hb.mono hb0.size)⟩
   clear HC
   go_wp2_with fail
   have hR:=HR.out
   subst hR
   exact ⟨rfl,fun _=>rfl,HE.out⟩
  case j2 =>
   intro ms X g1 g2 hx
   have hl:ms.length=4:=Nat.le_antisymm (Nat.le_trans g2 (by decide +kernel)) (Nat.le_trans (by decide +kernel) g1)
   obtain ⟨v0,v1,v2,v3,rfl⟩:=ls4 hl
   obtain ⟨⟨W,⟨a0,c0,rfl,ho0⟩,hzW,⟨a1,c1,rfl,ho1⟩,hbW⟩,hbX⟩:=hx
   simp only [moreV,gotV,List.mem_cons,List.not_mem_nil,Nat.reduceEqDiff,or_false,or_true,or_self,if_true,if_false,Option.isNone_some,Bool.false_eq_true,List.nil_append,List.cons_append]
   generalize hR:(fun v w'=>(_→v=_)∧_)=RR
   have HR:=hid hR
   clear hR g1 g2 hl
   simp only [putsFrom,Act.put,qA,qB,qC,Nat.zero_add,Nat.reduceAdd,uv,List.getElem?_cons_zero,List.getElem?_cons_succ,List.take_succ_cons,List.take_zero,List.getD_cons_zero,List.getD_cons_succ]
   have HC:=hid (show Calls _ _ _ _ (JB _ E X) from (by rw [HE0.out];exact join_new Y0.heap.size a0 c0 _ C a1 c1 _ D W.heap.size W X rfl rfl ho0 hzW (Nat.le_refl _) ho1 hbW HYD.out (by omega)))
   go_wp2_with fail
   refine HC.out.mono ?_
   rintro e X2 ⟨a,c,rfl,ho,hb⟩
   have HE:Hid (NumsR Y0 A B C D E [v0,v1,.slice a0 C.length c0,.slice a1 D.length c1,.slice a E.length c] X2):=hid ⟨⟨a,c,rfl,ho⟩,hbX.trans hb⟩
   clear HC
   go_wp2_with fail
   have hR:=HR.out
   subst hR
   exact ⟨rfl,fun _=>rfl,HE.out⟩
  case mv =>
   intro ms X g1 g2 hx
   have hl:ms.length=5:=Nat.le_antisymm (Nat.le_trans g2 (by decide +kernel)) (Nat.le_trans (by decide +kernel) g1)
   obtain ⟨v0,v1,v2,v3,v4,rfl⟩:=ls5 hl
   simp only [moreV,gotV,List.mem_cons,List.not_mem_nil,Nat.reduceEqDiff,or_false,or_true,or_self,if_true,if_false,Option.isNone_some,Bool.false_eq_true,List.nil_append,List.cons_append]
   generalize hR:(fun v w'=>(_→v=_)∧_)=RR
   have HR:=hid hR
   have HXX:=hid hx
   clear hR g1 g2 hx hl
   simp only [putsFrom,Act.put,qA,qB,qC,Nat.zero_add,Nat.reduceAdd,uv,List.getElem?_cons_zero,List.getElem?_cons_succ,List.take_succ_cons,List.take_zero,List.getD_cons_zero,List.getD_cons_succ]
   go_wp2_with fail
   have hR:=HR.out
   subst hR
   exact ⟨rfl,fun _=>rfl,HXX.out⟩
 ·intro ms X hl hx
  obtain ⟨v0,v1,v2,v3,v4,rfl⟩:=ls5 hl
  obtain ⟨⟨a1,c1,rfl,ho1⟩,hbX⟩:=hx
  have hX:=toW.out X hbX
  simp only [putsFrom,Act.put,qA,qB,qC,Nat.zero_add,Nat.reduceAdd,uv,List.getElem?_cons_zero,List.getElem?_cons_succ,List.take_succ_cons,List.take_zero,List.getD_cons_zero,List.getD_cons_succ]
  clear hl
  obtain ⟨E2,hE2⟩:∃ L,L=E++keysB x.rs:=⟨_,rfl⟩
  obtain ⟨E3,hE3⟩:∃ L,L=E2++numB x.ss.length:=⟨_,rfl⟩
  have hzY:=HZ0.out
  have hzX:=hbX.size
  have LK1:=keysB_len x.rs (by have:=HL1.out;omega)
  have LK3:=keysB_len x.ws (by have:=HL3.out;omega)
  have LE2:E2.length≤8800100:=by rw [hE2,List.length_append];have:=HL1.out;omega
  have NDS:NumD (x.ss.length:Int):=by have:=HL2.out;exact ⟨by omega,by omega⟩
  have LS:=numB_len NDS
  have LE3:E3.length≤8800110:=by rw [hE3,List.length_append];omega
  have HK:=hid (docKeys_any x.ra x.rc _ x.rs X rfl (AX.out X hX).r (by have:=HL1.out;omega))
  have HNS:=hid (fun W=>docNum_any x.ss.length W NDS)
  have HE2:=hid hE2;have HE3:=hid hE3
  have HLK:=hid (And.intro LK1 LK3)
  have HLS:=hid LS
  obtain ⟨b0,b1,b2,b3,b4,b5⟩:=BX.out X hX
  clear hE2 hE3 b0 b1 b2 b5 NDS LS LK1 LK3
  go_wp2_with fail
  refine HK.out.mono ?_
  rintro e X2 ⟨a2,c2,rfl,ho2,hb2⟩
  have HJ:=hid (show Calls _ _ _ _ (JB _ E2 X2) from (by rw [HE2.out];exact join_new Y0.heap.size a1 c1 _ E a2 c2 _ (keysB x.rs) X.heap.size X X2 rfl rfl ho1 hzX (Nat.le_refl _) ho2 hb2 (keysB_byte _) (by have:=HLK.out.1;have:=HL1.out;omega)))
  have hz2:=hb2.size
  have hX2:=hX.trans (hb2.mono (by omega))
  clear ho1 ho2 b3 b4
  generalize (keysB x.rs).length=m2 at *
  go_wp2_with fail
  refine HJ.out.mono ?_
  rintro e X3 ⟨a3,c3,rfl,ho3,hb3⟩
  have hz3:=hb3.size
  have hX3:=hX2.trans (hb3.mono (by omega))
  obtain ⟨b0,b1,b2,b3,b4,b5⟩:=BX.out X3 hX3
  clear HJ HK b0 b1 b2 b3 b5
  go_wp2_with fail
  refine (HNS.out X3).mono ?_
  rintro e X4 ⟨a4,c4,rfl,ho4,hb4⟩
  have HJ:=hid (show Calls _ _ _ _ (JB _ E3 X4) from (by rw [HE3.out];exact join_new Y0.heap.size a3 c3 _ E2 a4 c4 _ (numB x.ss.length) X3.heap.size X3 X4 rfl rfl ho3 (by omega) (Nat.le_refl _) ho4 hb4 (numB_byte _) (by have:=HLS.out;omega)))
  have hz4:=hb4.size
  have hX4:=hX3.trans (hb4.mono (by omega))
  clear ho3 ho4 b4
  generalize (numB x.ss.length).length=m4 at *
  go_wp2_with fail
  refine HJ.out.mono ?_
  rintro e X5 ⟨a5,c5,rfl,ho5,hb5⟩
  have hz5:=hb5.size
  have hX5:=hX4.trans (hb5.mono (by omega))
  clear HJ HNS
  have HO5:=hid ho5;have HX5:=hid hX5
  clear ho5 hX hX2 hX3 hX4 hX5 hb2 hb3 hb4 hb5 hz2 hz3 hz4 hz5 hbX hzX
  generalize hq0:E3.length=q0 at *
  have HQ0:=hid hq0
  clear hq0
  go_upto_region 5 with fail
  go_loopw [3,4] (fun t3 t4 wr=>∃ (i q:Nat) (L:List Nat) (a':Option Addr) (c':Nat),t3=.slice a' q c'∧t4=.int .i64 (i:Nat)∧i≤x.ss.length∧Hid (L.length=q)∧Hid (q≤8800110+16 * i)∧Hid (L=E3++(x.ss.take i).flatMap (fun s=>keyB (codeN s.lo)++keyB (codeN s.hi)))∧Hid (wr.ownsRow Y0.heap.size 5 1 (.slice a' q c') q (bCells L))∧Hid (Below w1.heap.size w1 wr)) (fun _ t4 _=>x.ss.length-(intOf t4).toNat)
  case atStart=>exact ⟨0,q0,E3,_,_,rfl,rfl,Nat.zero_le _,HQ0,hid (by omega),hid (by simp),HO5,HX5⟩
  case round =>
   obtain ⟨i,q,L,a',c',rfl,rfl,hi,HQ,HQL,HL,HW,HB⟩:=hrel
   obtain ⟨b0,b1,b2,b3,b4,b5⟩:=BX.out wr HB.out
   have hzr:=HB.out.size
   have hs8:x.ss.length≤1100000:=HL2.out
   by_cases hlt:i<x.ss.length
   ·have hlt':(i:Int)<(x.ss.length:Int):=by omega
    have hsat:=HX.out.s
    rcases hsat.row with h0|⟨gb,o,ha,hbl,hcl⟩
    ·rw [h0] at hlt;simp at hlt
    obtain ⟨k0,k1,_,_⟩:=hcl i hlt
    have KW:=hid fun W (hb:Below w1.heap.size w1 W)=>(hA.trans (hb.mono hA.size)).cell (p:=⟨gb,o+i * 4+1,none⟩) hbl
    have k0:=((hA.trans (HB.out.mono hA.size)).cell (p:=⟨gb,o+i * 4,none⟩) hbl).trans k0
    obtain ⟨kl,kh⟩:=hsat.lt i hlt
    have hy:=sp_some hlt
    generalize x.ss[i]?.getD default=y at *
    obtain ⟨L1,hL1⟩:∃ L1,L1=L++keyB (codeN y.lo):=⟨_,rfl⟩
    obtain ⟨L2,hL2⟩:∃ L2,L2=L1++keyB (codeN y.hi):=⟨_,rfl⟩
    have HLL:Hid (L2=E3++(x.ss.take (i+1)).flatMap (fun s=>keyB (codeN s.lo)++keyB (codeN s.hi))):=hid (by rw [hL2,hL1,HL.out,List.take_add_one,hy,List.flatMap_append];simp)
    have hN1:L1.length=q+8:=by rw [hL1,List.length_append,HQ.out,keyB_len]
    have hN2:L2.length=q+16:=by rw [hL2,List.length_append,hN1,keyB_len]
    have HL1':=hid hL1;have HL2':=hid hL2;have HN1:=hid hN1;have HN2:=hid hN2
    have hsa:=ha
    clear hL1 hL2 hN1 hN2 hsat hcl hy HL
    have HKL:=hid (docKey_any y.lo wr kl)
    have HKH:=hid (fun W=>docKey_any y.hi W kh)
    have KK:=hid k1;have HSA:=hid ha
    rw [ha] at b4
    clear k1 hbl b0 b1 b2 b3 b5 ha hsa kl kh
    go_upto_region 7 with fail
    go_wp2_with fail
    refine HKL.out.mono ?_
    rintro e V2 ⟨a2,c2,rfl,ho2,hb2⟩
    have HJ:=hid (show Calls _ _ _ _ (JB _ L1 V2) from (by rw [HL1'.out];exact join_new Y0.heap.size a' c' q L a2 c2 _ _ wr.heap.size wr V2 HQ.out rfl HW.out (by omega) (Nat.le_refl _) ho2 hb2 (keyB_byte _) (by rw [keyB_len];have:=HQL.out;have:=HL2.out;omega)))
    have hz2:=hb2.size
    have hV2:=HB.out.trans (hb2.mono (by omega))
    clear ho2 k0 b4
    generalize (keyB (codeN y.lo)).length=m2 at *
    go_wp2_with fail
    refine HJ.out.mono ?_
    rintro e V3 ⟨a3,c3,rfl,ho3,hb3⟩
    have hz3:=hb3.size
    have hV3:=hV2.trans (hb3.mono (by omega))
    obtain ⟨b0,b1,b2,b3,b4,b5⟩:=BX.out V3 hV3
    have k1:=(KW.out V3 hV3).trans KK.out
    rw [HSA.out] at b4
    have HO3:=hid ho3
    clear HJ hV2 hb2 hb3 b0 b1 b2 b3 b5 ho3
    generalize hq1:L1.length=q1 at *
    have HQ1:=hid hq1
    clear hq1
    go_wp2_with fail
    refine (HKH.out V3).mono ?_
    rintro e V4 ⟨a4,c4,rfl,ho4,hb4⟩
    have HJ:=hid (show Calls _ _ _ _ (JB _ L2 V4) from (by rw [HL2'.out];exact join_new Y0.heap.size a3 c3 q1 L1 a4 c4 _ _ V3.heap.size V3 V4 HQ1.out rfl HO3.out (by omega) (Nat.le_refl _) ho4 hb4 (keyB_byte _) (by rw [keyB_len];have:=HN1.out;have:=HQL.out;have:=HL2.out;omega)))
    have hz4:=hb4.size
    have hV4:=hV3.trans (hb4.mono (by omega))
    clear ho4 k1 b4
    generalize (keyB (codeN y.hi)).length=m3 at *
    go_wp2_with fail
    refine HJ.out.mono ?_
    rintro e V5 ⟨a5,c5,rfl,ho5,hb5⟩
    have HV5:=hid (hV4.trans (hb5.mono (by omega)))
    have HO5:=hid ho5
    clear HJ hb4 hb5 hV3 hV4 ho5
    generalize hq2:L2.length=q2 at *
    have HQ2:=hid hq2
    have HQ3:Hid (q2≤8800110+16 * (i+1)):=hid (by have:=HN2.out;have:=HQL.out;omega)
    clear hq2
    go_wp2_with fail
    go_roundw
    case rel=>exact ⟨i+1,q2,L2,a5,c5,rfl,by go_num,by omega,HQ2,HQ3,HLL,HO5,HV5⟩
    case measure=>simp [intOf];omega
   ·obtain rfl:i=x.ss.length:=by omega
    have hge:¬(x.ss.length:Int)<(x.ss.length:Int):=by omega
    have hL:=HL.out
    rw [List.take_length] at hL
    have HR1:Hid (L++keysB x.ws=R):=hid (by rw [HR0.out,hL,HE3.out,HE2.out,HEQ.out])
    have HK:=hid (docKeys_any x.wa x.wc _ x.ws wr rfl (AX.out wr HB.out).w (by have:=HL3.out;omega))
    clear hL HL b0 b1 b2 b3
    go_upto_region 9 with fail
    go_wp2_with fail
    refine HK.out.mono ?_
    rintro e V2 ⟨a2,c2,rfl,ho2,hb2⟩
    have HJ:=hid (show Calls _ _ _ _ (JB _ R V2) from (by rw [←HR1.out];exact join_new Y0.heap.size a' c' q L a2 c2 _ (keysB x.ws) wr.heap.size wr V2 HQ.out rfl HW.out (by omega) (Nat.le_refl _) ho2 hb2 (keysB_byte _) (by have:=HLK.out.2;have:=HL3.out;have:=HQL.out;have:=HL2.out;omega)))
    have hz2:=hb2.size
    have hV2:=HB.out.trans (hb2.mono (by omega))
    clear ho2 b4 b5
    generalize (keysB x.ws).length=m2 at *
    go_wp2_with fail
    refine HJ.out.mono ?_
    rintro e V3 ⟨a3,c3,rfl,ho3,hb3⟩
    have hV3:=hA.trans ((hV2.trans (hb3.mono (by omega))).mono hA.size)
    have hR:=K.own_le ho3 (show w.heap.size≤Y0.heap.size by omega)
    clear HJ HK
    generalize hq4:R.length=q4 at *
    have HQ4:=hid hq4
    clear hq4
    go_wp2_with fail
    go_ret
    refine ⟨a3,c3,?_,?_,hV3⟩
    ·show Ending.returned (.slice a3 q4 c3)=.returned (.slice a3 R.length c3)
     rw [HQ4.out]
    ·rw [HQ4.out];exact hR
 ·exact fun _ _ _ _ hx=>hx.elim
theorem docBytes_any (x:SubV) (w:World) (h:x.At w) (hck:K.SubV.check x=0) :
  Calls Tryz.prog 66 #[.agg #[.int .i64 x.s0,.int .i64 x.s1,.int .i64 x.s2,.slice x.ra x.rs.length x.rc,.slice x.sa x.ss.length x.sc,.slice x.wa x.ws.length x.wc]] w (BRet (packB (valsOf x)) w):=by
 obtain ⟨⟨D0,D1,D2,⟨l1,_⟩,⟨l2,_⟩,⟨l3,_⟩⟩,_⟩:=right_D hck
 simp only [toD,List.length_map] at D0 D1 D2 l1 l2 l3
 have HB:packB (valsOf x)=docB x:=by
  rw [packB_dB]
  simp only [docB,dB,toD,rowK,rowS,keysB,List.length_map,List.flatMap_map,List.append_assoc]
 rw [HB]
 exact docBytes_gen x w h D0 D1 D2 (by omega) (by omega) (by omega)

end Go.Proofs.YtdeeoddacnealaaGreat.P