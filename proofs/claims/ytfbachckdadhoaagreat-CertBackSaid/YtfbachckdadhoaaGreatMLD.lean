/- Several texts as one: LDB LDA LDC LDE LDF LDD LDG LDH LDI LDJ. -/
import Derived.Test.YtfbachckdadhoaaGreatQ0
import Derived.Test.YtfbachckdadhoaaGreatMPR
import Derived.Test.YtfbachckdadhoaaGreatMBY
import Derived.Test.YtfbachckdadhoaaGreatCO
import Derived.Test.YtfbachckdadhoaaGreatMPD
import Derived.Test.YtfbachckdadhoaaGreatMCR
import Derived.Test.YtfbachckdadhoaaGreatCV
namespace Go.Proofs.YtfbachckdadhoaaGreat.P
set_option linter.unusedVariables false
open Go.RowKit Fl
set_option linter.unusedSimpArgs false

def getFlag:List Nat→Option (Bool×List Nat)
 | []=>none
 | c :: r=>if 1<c then none else some (decide (c=1),r)
def getBytes (most:Nat) (bs:List Nat):Option (List Nat×List Nat):=match getCount most bs with
 | none=>none
 | some (n,r)=>if n≤r.length then some (r.take n,r.drop n) else none
set_option maxRecDepth 100000 in
theorem flag_any (B R:Nat) (bs:List Nat) (w:World) (h:RAt B R bs w) :
  Calls Tryz.prog 129 #[.pointer (some ⟨R,0,none⟩)] w (ReadRet B R (fun b=>.bool b) (getFlag bs) w):=by
 cases bs with
 | nil =>
  go_enter Tryz.func129,Tryz.ntmps129
  go_wp2_with fail
  refine (take_no B R 1 [] w h (by decide)).mono ?_
  rintro e w1 ⟨rfl,rfl⟩
  go_wp2_with fail
  exact ⟨rfl,rfl,⟨rfl,rfl,rfl,Nat.le_refl _,fun _ _ _=>rfl⟩⟩
 | cons x r =>
  have hx:x<256:=h.byte x List.mem_cons_self
  obtain ⟨q,hq⟩:∃ q,getFlag (x :: r)=q:=⟨_,rfl⟩
  have HQ:=hid hq
  rw [hq]
  clear hq
  go_enter Tryz.func129,Tryz.ntmps129
  go_wp2_with fail
  refine (take_ok B R 1 (x :: r) w h (by decide) (by simp)).mono ?_
  rintro e w1 ⟨b,o,c,rfl,hbR,hb,hc,hr,hg,-⟩
  have c0:=hc 0 (by decide)
  simp only [List.getElem?_cons_zero,Option.getD_some,Nat.add_zero] at c0
  have hr:RAt B R r w1:=hr
  by_cases h1:1<x
  ·have h1':(1:Int)<(x:Int):=by omega
   obtain rfl:none=q:=by rw [←HQ.out];exact (if_pos h1).symm
   clear h hc
   go_wp2_with fail
   refine (fail_any _ _).mono ?_
   rintro e w2 ⟨rfl,rfl⟩
   go_wp2_with fail
   exact ⟨rfl,rfl,hg⟩
  ·have h1':¬(1:Int)<(x:Int):=by omega
   obtain rfl:some (decide (x=1),r)=q:=by rw [←HQ.out];exact (if_neg h1).symm
   clear h hc
   have hx2:x=0∨x=1:=by omega
   rcases hx2 with rfl|rfl
   ·go_wp2_with fail
    exact bodyPost_ret (v:=.bool false) (by simp [results,Tryz.results129,go_sem]) rfl ⟨rfl,hr,hg⟩
   ·go_wp2_with fail
    exact bodyPost_ret (v:=.bool true) (by simp [results,Tryz.results129,go_sem]) rfl ⟨rfl,hr,hg⟩
def cbRet (xs:List Nat) (n:Nat) (w:World) (e:Ending) (w':World):Prop :=
 ∃ a c,e=.returned (.slice a n c)∧BAt w' a xs∧n≤c∧(xs≠[]→∀ b o,a=some ⟨b,o,none⟩→w.heap.size≤b)∧Below w.heap.size w w'
theorem cb_nil (w:World) (a:Option Addr) (n c:Nat):(binOp .eql 63 (.slice a n c) (.slice none 0 0)).run Tryz.prog w=.ok (.bool a.isNone) w:=Go.Lib.run_eql_slice_nil w _ _ a n c 0 0 Tryz.underlying63
theorem bat_cells {w:World} {a:Option Addr} {xs:List Nat} (h:BAt w a xs) (h0:0<xs.length):∃ b o,a=some ⟨b,o,none⟩∧b<w.heap.size∧∀ j u,(bCells xs)[j]? = some u→w.cell? ((⟨b,o,none⟩:Addr).add j)=some u:=by
 rcases h.row with h1|⟨b,o,rfl,hb,hc⟩
 ·rw [h1] at h0;simp at h0
 ·refine ⟨b,o,rfl,hb,fun j u hu=>?_⟩
  have hj:j<xs.length:=by rw [←bCells_len];exact (List.getElem?_eq_some_iff.1 hu).1
  unfold bCells at hu
  rw [List.getElem?_map,List.getElem?_eq_getElem hj] at hu
  have:=hc j hj
  rw [List.getElem?_eq_getElem hj] at this
  rw [Addr.add_lit]
  simpa [←Option.some.inj hu] using this
set_option maxRecDepth 100000 in
theorem cb_any (a:Option Addr) (c n:Nat) (xs:List Nat) (w:World) (hn:xs.length=n) (hl:n≤4096) (h:BAt w a xs) :
  Calls Tryz.prog 165 #[.slice a n c] w (cbRet xs n w):=by
 have hE:=cb_nil
 by_cases h0:n=0
 ·subst h0
  obtain rfl:xs=[]:=List.eq_nil_of_length_eq_zero hn
  have fin:∀ a c W,Below w.heap.size w W→cbRet [] 0 w (.returned (.slice a 0 c)) W:=fun a c W hb=>⟨a,c,rfl,⟨.inl rfl,fun i hi=>(by cases hi),by simp⟩,Nat.zero_le _,fun e=>absurd rfl e,hb⟩
  have hfin:=hid fin
  clear fin h hn hl
  rcases a with _|p
  ·go_enter Tryz.func165,Tryz.ntmps165
   go_wp2
   go_ret
   exact hfin.out _ _ _ (by exact below_auto)
  ·go_enter Tryz.func165,Tryz.ntmps165
   go_wp2
   go_ret
   exact hfin.out _ _ _ (by exact below_auto)
 ·obtain ⟨b,o,rfl,hb,hc⟩:=bat_cells h (by omega)
  obtain ⟨i0,hi0,hz0,hzs,hzb⟩:=info_parts byteInfo
  have hb1:Below w.heap.size w (w.alloc (.cells #[] 5)):=by exact below_auto
  have hown1:(w.alloc (.cells #[] 5)).ownsRow w.heap.size 5 1 (.slice (some ⟨w.heap.size,0,none⟩) 0 0) 0 [] :=
   ⟨rfl,.inr ⟨w.heap.size,0,#[],rfl,Nat.le_refl _,heap_alloc_new w _,Nat.le_refl _,by unfold maxLen;omega,rfl,rfl⟩⟩
  obtain ⟨v',w',hr,h2,h3⟩:=run_append_own2 (P:=Tryz.prog) (w.alloc (.cells #[] 5)) w.heap.size 63 5 i0 _ 1 1 Tryz.underlying63 hi0 hz0 hzs hzb rfl (by omega) _ 0 [] hown1 ⟨b,o,none⟩ n c (bCells xs) (by have:=bCells_len xs;omega)
   (fun j u hj=>by have:=hc j u hj;rw [Addr.add_lit] at this ⊢;exact (hb1.cell (p:=⟨b,o+j,none⟩) hb).trans this) (by
    intro u hu
    obtain ⟨x,_,rfl⟩:=List.mem_map.1 hu
    rfl) (by omega) (by unfold maxLen;omega) (by omega) (by simp)
  rw [List.nil_append,Nat.zero_add] at h2
  obtain ⟨a',c',rfl,hnc⟩:∃ va vc,v'=.slice va n vc∧n≤vc:=by
   rcases h2.2 with ⟨h4,h5⟩|⟨g,cap,cur,h4,_,_,h5,_⟩
   ·omega
   ·exact ⟨_,_,h4,h5⟩
  have fin:cbRet xs n w (.returned (.slice a' n c')) w':=⟨a',c',rfl,own_bat hn h2 (by omega) h.lt,hnc,fun _ b o e=>(h2.lt b (by rw [e];rcases h2.2 with ⟨h4,h5⟩|⟨g,cap,cur,h4,_⟩;(omega);(injection h4 with h6 _ _;rw [e] at h6;injection h6 with h7;injection h7 with h8 h9 h10;subst h9;rfl))).1,⟨h3.1.os.trans hb1.os,h3.1.tape.trans hb1.tape,h3.1.output.trans hb1.output,Nat.le_trans hb1.size h3.1.size,fun k hk=>(h3.1.block k (by simp;omega) (by simp [Value.ownBlock];omega)).trans (hb1.block k hk)⟩⟩
  have hfin:=hid fin
  clear hb1 hown1 fin hz0 hzs hzb h2 h3 hc h
  go_enter Tryz.func165,Tryz.ntmps165
  go_wp2_with (at_builtin;refine Lib.wpList_append_run _ rfl _ _ _ _ rfl _ _ rfl rfl _ _ (hr _) ?_)
  go_ret
  exact hfin.out
def Take0 (B R:Nat) (bs:List Nat) (w:World) (e:Ending) (w':World):Prop:=∃ a c,e=.returned (.slice a 0 c)∧RAt B R bs w'∧w.grownBy w' (some R)
theorem take0_end {B R:Nat} {bs:List Nat} {w:World} {a a':Option Addr} {c c':Nat} (h:RAt B R bs w) (h1:w.heap[R]? = some (.cells #[.slice a bs.length c] 200 (0,0))) (ha:a'=a) (hc:bs.length≤c'):RAt B R bs (w.setCell ⟨R,0,none⟩ (.slice a' bs.length c'))∧w.grownBy (w.setCell ⟨R,0,none⟩ (.slice a' bs.length c')) (some R):=by
 obtain ⟨a0,c0,k1,k2,k3,k4⟩:=h
 have hR:=(Array.getElem?_eq_some_iff.1 h1).1
 obtain ⟨h5,h6⟩:=set1R (i:=0) h1 (.slice a' bs.length c')
 refine ⟨⟨a',c',h5,hc,?_,k4⟩,h6⟩
 rcases k3 with k3|⟨b,o,e1,e2,hBR,e4⟩
 ·exact .inl k3
 ·have:a=a0:=by
   rw [k1] at h1
   simp only [Option.some.injEq,Obj.cells.injEq,Array.mk.injEq,List.cons.injEq,Value.slice.injEq,and_true,true_and] at h1
   exact h1.1.symm
  refine .inr ⟨b,o,by rw [ha,this,e1],e2,hBR,fun i hi=>(cell_blk (h6.block b (by omega) (fun e=>by have:=Option.some.inj e;omega)) _).trans (e4 i hi)⟩
set_option maxRecDepth 100000 in
theorem take_zero (B R:Nat) (bs:List Nat) (w:World) (h:RAt B R bs w) :
  Calls Tryz.prog 127 #[.pointer (some ⟨R,0,none⟩),.int .i64 0] w (Take0 B R bs w):=by
 have hR:=h.lt
 have h0:=h
 obtain ⟨a,c,h1,h2,h3,h4⟩:=h
 have k0:=box1 h1
 have f0:w.frozen? ⟨R,0,none⟩=false:=by simp [World.frozen?,h1]
 have hlt':¬((0:Int) > (bs.length:Int)):=by omega
 have HE:=hid fun (a':Option Addr) (c':Nat)=>take0_end (a':=a') (c':=c') h0 h1
 have HN:Hid (a=none→bs=[]):=hid fun e=>by
  rcases h3 with h3|⟨b,o,e1,_⟩
  ·exact h3
  ·rw [e] at e1;cases e1
 have HSP:Hid (bs≠[]→∃ b o,a=some ⟨b,o,none⟩):=hid fun e=>by
  rcases h3 with h3|⟨b,o,e1,_⟩
  ·exact absurd h3 e
  ·exact ⟨b,o,e1⟩
 clear h1 h3 h4 h0
 generalize hbl:bs.length=n at *
 have HBL:=hid hbl
 clear hbl
 rcases a with _|⟨b,o,sp⟩
 ·go_enter Tryz.func127,Tryz.ntmps127
  go_wp2_with fail
  exact bodyPost_ret (v:=.slice none 0 c) (by simp [results,Tryz.results127,go_sem]) rfl ⟨_,_,rfl,HE.out none c rfl h2⟩
 ·go_enter Tryz.func127,Tryz.ntmps127
  go_wp2_with fail
  exact bodyPost_ret (v:=.slice (some ⟨b,o,sp⟩) 0 c) (by simp [results,Tryz.results127,go_sem]) rfl ⟨_,_,rfl,HE.out _ c rfl h2⟩
def BytesR (B R:Nat) (o:Option (List Nat×List Nat)) (w:World) (e:Ending) (w':World):Prop:=match o with
 | none=>e=.panicked wrongP∧w.grownBy w' (some R)
 | some (l,r)=>∃ a c,e=.returned (.slice a l.length c)∧BAt w' a l∧l.length≤c∧RAt B R r w'∧w.grownBy w' (some R)
theorem take_bat {w:World} {b o n:Nat} {r:List Nat} (hb:b<w.heap.size) (hn:n≤r.length) (hl:n≤4096) (hlt:∀ x∈r,x<256) (hc:∀ i,i<n→w.cell? ⟨b,o+i,none⟩=some (.int .u8 (r[i]?.getD 0:Nat))):BAt w (some ⟨b,o,none⟩) (r.take n):=by
 refine ⟨.inr ⟨b,o,rfl,hb,fun i hi=>?_⟩,fun x hx=>hlt x (List.mem_of_mem_take hx),by rw [List.length_take];unfold maxLen;omega⟩
 rw [List.length_take] at hi
 rw [List.getElem?_take,if_pos (by omega)]
 exact hc i (by omega)
set_option maxRecDepth 100000 in
theorem rbytes_any (B R:Nat) (bs:List Nat) (w:World) (h:RAt B R bs w) :
  Calls Tryz.prog 131 #[.pointer (some ⟨R,0,none⟩)] w (BytesR B R (getBytes 4096 bs) w):=by
 obtain ⟨q,hq⟩:∃ q,getBytes 4096 bs=q:=⟨_,rfl⟩
 rw [hq]
 have HQ:=hid hq
 clear hq
 go_enter Tryz.func131,Tryz.ntmps131
 go_wp2_with fail
 refine (count_any B R 4096 bs w h).mono ?_
 intro e w1 h1
 cases hn:getCount 4096 bs with
 | none =>
  obtain rfl:none=q:=by rw [←HQ.out];unfold getBytes;rw [hn]
  rw [hn] at h1
  obtain ⟨rfl,hg⟩:=h1
  go_wp2_with fail
  exact ⟨rfl,rfl,hg⟩
 | some p =>
  obtain ⟨n,r⟩:=p
  rw [hn] at h1
  obtain ⟨rfl,hr,hg⟩:=h1
  have hn4:=(show n≤4096 from by
   unfold getCount at hn
   cases hx:getNum bs with
   | none=>rw [hx] at hn;cases hn
   | some p =>
    rw [hx] at hn
    simp only at hn
    split at hn
    ·cases hn
    ·simp only [Option.some.injEq,Prod.mk.injEq] at hn;omega)
  have HE:Hid (q=if n≤r.length then some (r.take n,r.drop n) else none):=hid (by rw [←HQ.out];unfold getBytes;rw [hn])
  have hlt:=hr.byte
  clear hn h
  by_cases h0:n=0
  ·subst h0
   have hE:=HE.out
   rw [if_pos (Nat.zero_le _)] at hE
   subst hE
   go_wp2_with fail
   refine (take_zero B R r w1 hr).mono ?_
   rintro e w2 ⟨a,c,rfl,hr2,hg2⟩
   have hg3:=hg.trans hg2
   go_wp2_with fail
   refine (cb_any a c 0 [] w2 rfl (Nat.zero_le _) ⟨.inl rfl,fun i hi=>(by cases hi),by simp⟩).mono ?_
   rintro e w3 ⟨a3,c3,rfl,hb3,hc3,_,hbw⟩
   have HR:Hid (BytesR B R (some (r.take 0,r.drop 0)) w (.returned (.slice a3 0 c3)) w3):=hid ⟨a3,c3,rfl,hb3,hc3,hr2.below hbw hr2.lt,grown_below hg3 hbw hg3.size⟩
   clear hb3 hc3 hbw hg3 hg2 hr2 hg hr
   go_wp2_with fail
   exact bodyPost_ret (v:=.slice a3 0 c3) (by simp [results,Tryz.results131,go_sem]) rfl HR.out
  ·by_cases hle:n≤r.length
   ·have hE:=HE.out
    rw [if_pos hle] at hE
    subst hE
    go_wp2_with fail
    refine (take_ok B R n r w1 hr (by omega) hle).mono ?_
    rintro e w2 ⟨b,o,c,rfl,hbR,hbl,hcs,hr2,hg2,-⟩
    have hg3:=hg.trans hg2
    have hlt':(r.take n).length=n:=by rw [List.length_take];omega
    have HB:=hid (cb_any (some ⟨b,o,none⟩) c n (r.take n) w2 hlt' hn4 (take_bat hbl hle hn4 hlt hcs))
    clear hcs hr hg hg2
    go_wp2_with fail
    refine HB.out.mono ?_
    rintro e w3 ⟨a3,c3,rfl,hb3,hc3,_,hbw⟩
    have HR:Hid (BytesR B R (some (r.take n,r.drop n)) w (.returned (.slice a3 n c3)) w3):=hid ⟨a3,c3,by rw [hlt'],hb3,by rw [hlt'];exact hc3,hr2.below hbw hr2.lt,grown_below hg3 hbw hg3.size⟩
    clear hb3 hc3 hbw hg3 hr2 hlt' HB
    go_wp2_with fail
    exact bodyPost_ret (v:=.slice a3 n c3) (by simp [results,Tryz.results131,go_sem]) rfl HR.out
   ·have hE:=HE.out
    rw [if_neg hle] at hE
    subst hE
    go_wp2_with fail
    refine (take_no B R n r w1 hr (by omega)).mono ?_
    rintro e w2 ⟨rfl,rfl⟩
    go_wp2_with fail
    exact ⟨rfl,rfl,hg⟩
end Go.Proofs.YtfbachckdadhoaaGreat.P
namespace Go.Proofs.YtfbachckdadhoaaGreat.C
set_option linter.unusedVariables false
open Go.RowKit Fl
open Go.Proofs.YtfbachckdadhoaaGreat.P (numB keyB codeN encO NumD KeyD getNum getKey getCount getFlag getBytes dec ofD toD)
set_option linter.unusedSimpArgs false

def ldOld (ne:Bool) (lo hi:Int) (bs:List Nat):Option (Int×List Nat):=match getNum bs with
 | none=>none
 | some (n,r)=>if ne=true∧lo<n∧n<hi then some (n,r) else none
def ldDone (n:Int) (bs:List Nat):Option (RecV×List Nat):=match getFlag bs with
 | none=>none
 | some (out,r)=>match getBytes 4096 r with
  | none=>none
  | some (l,r2)=>match dec l with
   | none=>none
   | some t=>if (ofD t).s2<n then some (⟨n,ofD t,out⟩,r2) else none
def ldRecs (a:Int):Nat→List Nat→Option (List RecV×List Nat)
 | 0,bs=>some ([],bs)
 | i+1,bs=>match ldRecs a i bs with
  | none=>none
  | some (L,r)=>match ldDone (a+i) r with
   | none=>none
   | some (x,r')=>some (L++[x],r')
structure KSt where
 last:Nat
 its:List ItV
 rest:List Nat
def ldKey (most:Int) (ne:Bool) (lo hi:Int) (i:Nat) (s:KSt):Option KSt:=match getKey s.rest with
 | none=>none
 | some (k,r)=>if i=0∨flt s.last k=true then (match ldOld ne lo hi r with
  | none=>none
  | some (n,r2)=>if (putI s.its most k n).1=0 then some ⟨k,(putI s.its most k n).2,r2⟩ else none) else none
def ldKeysN (most:Int) (ne:Bool) (lo hi:Int) (its:List ItV) (bs:List Nat):Nat→Option KSt
 | 0=>some ⟨0,its,bs⟩
 | i+1=>match ldKeysN most ne lo hi its bs i with
  | none=>none
  | some s=>ldKey most ne lo hi i s
def ldKeys (most:Int) (ne:Bool) (lo hi:Int) (its:List ItV) (bs:List Nat):Option (List ItV×List Nat):=match getCount 64 bs with
 | none=>none
 | some (n,r)=>(ldKeysN most ne lo hi its r n).map fun s=>(s.its,s.rest)
structure QSt where
 last:Rg
 its:List Q.ItV
 rest:List Nat
def ldSp (most:Int) (ne:Bool) (lo hi:Int) (i:Nat) (s:QSt):Option QSt:=match getKey s.rest with
 | none=>none
 | some (a,r1)=>match getKey r1 with
  | none=>none
  | some (z,r2)=>if i=0∨0<cmpR (canonS a z false false) s.last then (match ldOld ne lo hi r2 with
   | none=>none
   | some (n,r3)=>if (Q.putI s.its most (canonS a z false false) n).1=0 then some ⟨canonS a z false false,(Q.putI s.its most (canonS a z false false) n).2,r3⟩ else none) else none
def ldSpsN (most:Int) (ne:Bool) (lo hi:Int) (its:List Q.ItV) (bs:List Nat):Nat→Option QSt
 | 0=>some ⟨canonS 0 0 false false,its,bs⟩
 | i+1=>match ldSpsN most ne lo hi its bs i with
  | none=>none
  | some s=>ldSp most ne lo hi i s
def ldSps (most:Int) (ne:Bool) (lo hi:Int) (its:List Q.ItV) (bs:List Nat):Option (List Q.ItV×List Nat):=match getCount 64 bs with
 | none=>none
 | some (n,r)=>(ldSpsN most ne lo hi its r n).map fun s=>(s.its,s.rest)
def hiOf (L:List RecV):Int:=(L.head?.map RecV.num).getD 0
def neOf (L:List RecV):Bool:=!L.isEmpty
def ldTabs (most:Int) (L:List RecV) (hz:Int) (bs:List Nat):Option ((List ItV×List ItV×List ItV×List Q.ItV)×List Nat) :=
 (ldKeys most (neOf L) hz (hiOf L) [] bs).bind fun p1=>(ldKeys most (neOf L) hz (hiOf L) [] p1.2).bind fun p2=>(ldKeys most (neOf L) hz (hiOf L) [] p2.2).bind fun p3 =>
  (ldSps most (neOf L) hz (hiOf L) [] p3.2).map fun p4=>((p1.1,p2.1,p3.1,p4.1),p4.2)
def ldBody (keep old:Int) (bs:List Nat):Option (CL×List Nat):=match getNum bs with
 | none=>none
 | some (cnt,r1)=>match getNum r1 with
  | none=>none
  | some (hz,r2)=>if 0≤hz∧hz≤cnt∧cnt≤1099511627776 then (match getCount keep.toNat r2 with
   | none=>none
   | some (n,r3)=>if (n:Int)≤cnt-hz then (match ldRecs (cnt-n+1) n r3 with
    | none=>none
    | some (L,r4)=>(ldTabs (mostI old) L hz r4).map fun p=>(⟨keep,old,cnt,hz,L,none,0,0,0,0,0,p.1.1,p.1.2.1,p.1.2.2.1,p.1.2.2.2⟩,p.2)) else none) else none
def ldAll (keep old:Int) (bs:List Nat):Option CL:=(ldBody keep old bs).bind fun p=>if p.2=[] then some p.1 else none

theorem count_fwd {most n:Nat} (h:n≤most) (hm:most≤1000000) (r:List Nat):getCount most (numB n++r)=some (n,r):=by
 unfold getCount
 rw [P.num_good.fwd (n:Int) r ⟨by omega,by omega⟩]
 simp only
 rw [if_neg (by omega)]
 simp
theorem old_fwd {ne:Bool} {lo hi n:Int} (h1:ne=true) (h2:lo<n) (h3:n<hi) (hn:NumD n) (r:List Nat):ldOld ne lo hi (numB n++r)=some (n,r):=by
 unfold ldOld
 rw [P.num_good.fwd n r hn]
 exact if_pos ⟨h1,h2,h3⟩
theorem bytes_fwd {l:List Nat} (h:l.length≤4096) (r:List Nat):getBytes 4096 (numB l.length++l++r)=some (l,r):=by
 unfold getBytes
 rw [List.append_assoc,count_fwd h (by decide)]
 simp only
 rw [if_pos (by simp)]
 simp
theorem flag_fwd (b:Bool) (r:List Nat):getFlag ((if b=true then 1 else 0) :: r)=some (b,r):=by
 cases b <;> rfl
theorem ofD_n {x:SubV} (h:K.SubV.check x=0):ofD (toD x)=SubV.n x:=by
 obtain ⟨_,h2⟩:=P.right_D h
 have e:(x.ss.map fun s=>(s.lo,s.hi)).map P.spOf=x.ss:=by
  rw [List.map_map]
  conv=>rhs;rw [←List.map_id x.ss]
  refine List.map_congr_left fun s hs=>?_
  obtain ⟨a,b,c,d⟩:=s
  obtain ⟨e1,e2⟩:=h2 _ hs
  simp only at e1 e2
  subst e1;subst e2;rfl
 unfold ofD toD SubV.n
 simp only
 rw [e]
theorem done_fwd {w:World} {x:RecV} (hx:x.s.At w) (hc:K.SubV.check x.s=0) (hs:x.s.s2<x.num) (r:List Nat):ldDone x.num (recB x++r)=some (RecV.n x,r):=by
 have hl:=encO_len2 hx hc
 unfold ldDone recB
 rw [List.cons_append,flag_fwd]
 simp only
 rw [bytes_fwd hl.2]
 simp only
 rw [(P.enc_dec hc).1]
 simp only
 rw [ofD_n hc]
 exact if_pos hs
end Go.Proofs.YtfbachckdadhoaaGreat.C
namespace Go.Proofs.YtfbachckdadhoaaGreat.C
set_option linter.unusedVariables false
open Go.RowKit Fl
open Go.Proofs.YtfbachckdadhoaaGreat.P (RAt ReadRet wrongP getNum)
set_option linter.unusedSimpArgs false

structure FrR (R:Nat) (ow ow':Nat→Nat) (w w':World):Prop where
 os:w'.os=w.os
 tape:w'.tape=w.tape
 output:w'.output=w.output
 size:w.heap.size≤w'.heap.size
 block:∀ k,k<w.heap.size→ow k=0→k≠R→w'.heap[k]? = w.heap[k]?
 own:∀ k,k<w.heap.size→ow' k=ow k
theorem FrR.refl (R:Nat) (ow:Nat→Nat) (w:World):FrR R ow ow w w:=⟨rfl,rfl,rfl,Nat.le_refl _,fun _ _ _ _=>rfl,fun _ _=>rfl⟩
theorem FrR.trans {R:Nat} {o1 o2 o3:Nat→Nat} {a b c:World} (h:FrR R o1 o2 a b) (k:FrR R o2 o3 b c):FrR R o1 o3 a c :=
 ⟨k.os.trans h.os,k.tape.trans h.tape,k.output.trans h.output,Nat.le_trans h.size k.size,fun i hi h0 hR=>(k.block i (Nat.lt_of_lt_of_le hi h.size) ((h.own i hi).trans h0) hR).trans (h.block i hi h0 hR),fun i hi=>(k.own i (Nat.lt_of_lt_of_le hi h.size)).trans (h.own i hi)⟩
theorem FrR.grown {R:Nat} (ow:Nat→Nat) {w w':World} (h:w.grownBy w' (some R)):FrR R ow ow w w':=⟨h.os,h.tape,h.output,h.size,fun k hk _ hR=>h.block k hk fun e=>hR (Option.some.inj e),fun _ _=>rfl⟩
theorem FrR.of {R:Nat} {ow ow':Nat→Nat} {w w':World} (h:Fr ow ow' w w'):FrR R ow ow' w w':=⟨h.os,h.tape,h.output,h.size,fun k hk h0 _=>h.block k hk h0,h.own⟩
theorem FrR.of_below {R:Nat} (ow:Nat→Nat) {w w':World} (h:Below w.heap.size w w'):FrR R ow ow w w':=FrR.of (Fr.of_below ow h)

theorem gb (R:Nat) {w w':World} (h:Below w.heap.size w w'):w.grownBy w' (some R):=⟨h.os,h.tape,h.output,h.size,fun k hk _=>h.block k hk⟩
structure LSt (B R T:Nat) (c:CL) (ow:Nat→Nat) (bs:List Nat) (w:World):Prop where
 c:CAt B T c ow w
 r:RAt B R bs w
 z:ow R=0
 b:B≤R
section
variable {B R T : Nat} {c c' : CL} {ow ow' : Nat → Nat} {bs bs' : List Nat} {w w' : World}
theorem LSt.read (h:LSt B R T c ow bs w) (hg:w.grownBy w' (some R)) (hr:RAt B R bs' w'):LSt B R T c ow bs' w' :=
 ⟨h.c.keep hg.size fun k hk h0=>hg.block k hk fun e=>h0 (by rw [Option.some.inj e];exact h.z),hr,h.z,h.b⟩
theorem LSt.below (h:LSt B R T c ow bs w) (hb:Below w.heap.size w w'):LSt B R T c ow bs w':=⟨h.c.below hb,h.r.below hb h.r.lt,h.z,h.b⟩
theorem LSt.step (h:LSt B R T c ow bs w) (hc:CAt B T c' ow' w') (f:Fr ow ow' w w'):LSt B R T c' ow' bs w' :=
 ⟨hc,h.r.keep (f.block R h.r.lt h.z) fun b hb=>f.block b (Nat.lt_of_lt_of_le hb h.c.hB) (Classical.byContradiction fun h0=>by have:=(h.c.low b h0).1;omega),(f.own R h.r.lt).trans h.z,h.b⟩
end
theorem need_yes (R T:Nat) (w:World):Calls Tryz.prog 73 #[.agg #[.pointer (some ⟨R,0,none⟩),.pointer (some ⟨T,0,none⟩)],.bool true] w fun e w'=>e=.returned (.tuple #[])∧Below w.heap.size w w':=by
 go_enter Tryz.func73,Tryz.ntmps73
 go_wp2
 go_end0
 exact ⟨rfl,by exact below_auto⟩
theorem need_no (R T:Nat) (w:World):Calls Tryz.prog 73 #[.agg #[.pointer (some ⟨R,0,none⟩),.pointer (some ⟨T,0,none⟩)],.bool false] w fun e w'=>e=.panicked wrongP∧Below w.heap.size w w':=by
 go_enter Tryz.func73,Tryz.ntmps73
 go_wp2_with fail
 refine (P.fail_any _ _).mono ?_
 rintro e w' ⟨rfl,rfl⟩
 go_wp2_with fail
 exact ⟨rfl,rfl,by exact below_auto⟩
set_option maxRecDepth 100000 in
theorem old_any {B R T:Nat} {c:CL} {ow:Nat→Nat} {bs:List Nat} {w:World} (h:LSt B R T c ow bs w) (hl:(c.recs.length:Int)≤40) :
  Calls Tryz.prog 133 #[.agg #[.pointer (some ⟨R,0,none⟩),.pointer (some ⟨T,0,none⟩)]] w (ReadRet B R (fun n=>.int .i64 n) (ldOld (neOf c.recs) c.horizon (hiOf c.recs) bs) w):=by
 obtain ⟨q,hq⟩:∃ q,ldOld (neOf c.recs) c.horizon (hiOf c.recs) bs=q:=⟨_,rfl⟩
 rw [hq]
 have HQ:=hid hq
 have HS:=hid h
 clear hq h
 go_enter Tryz.func133,Tryz.ntmps133
 go_upto_region 1 with fail
 generalize hW1:World.alloc w _=w1
 have hb1:Below w.heap.size w w1:=by rw [←hW1];exact below_auto
 have q1:w1.heap[w.heap.size]? = some (.cells #[.pointer (some ⟨R,0,none⟩),.pointer (some ⟨T,0,none⟩)] 143 (0,0)):=by rw [←hW1];exact heap_alloc_new w _
 have S1:=HS.out.below hb1
 have hRw:=HS.out.r.lt
 obtain ⟨X,hX⟩:∃ X,X=w.heap.size:=⟨_,rfl⟩
 have HG1:=hid hb1
 rw [←hX] at q1 ⊢
 have HX:=hid hX
 clear hW1 hb1 hX
 obtain ⟨x0,x1,-,-⟩:=row2 q1
 go_wp2_with fail
 refine (P.num_any B R bs w1 S1.r).mono ?_
 intro e w2 h2
 have hXl:=(Array.getElem?_eq_some_iff.1 q1).1
 cases h0:getNum bs with
 | none =>
  obtain rfl:none=q:=by rw [←HQ.out];unfold ldOld;rw [h0]
  rw [h0] at h2
  obtain ⟨rfl,hg⟩:=h2
  go_wp2_with fail
  exact ⟨rfl,rfl,(gb R HG1.out).trans hg⟩
 | some p =>
  obtain ⟨n,r⟩:=p
  rw [h0] at h2
  obtain ⟨rfl,hr2,hg2⟩:=h2
  have hnd:=(P.num_good.bwd _ _ _ h0 S1.r.byte).2
  have hne:Hid (q=if neOf c.recs=true∧c.horizon<n∧n<hiOf c.recs then some (n,r) else none):=hid (by rw [←HQ.out];unfold ldOld;rw [h0])
  have S2:=hid (S1.read hg2 hr2)
  have HG2:=hid ((gb R HG1.out).trans hg2)
  have q2:=(hg2.block X hXl (fun e=>by have:=Option.some.inj e;have:=HX.out;omega)).trans q1
  clear x0 x1 hr2 hg2 h0 q1 S1 hXl HG1
  obtain ⟨x0,x1,-,-⟩:=row2 q2
  have hXl:=(Array.getElem?_eq_some_iff.1 q2).1
  have hTl:=S2.out.c.lt.2
  obtain ⟨t0,t1,t2,t3,t4,t5,t6,t7,t8⟩:=row9 S2.out.c.box
  have HR:Hid (∀ v W,Below w2.heap.size w2 W→v=some (n,r)→ReadRet B R (fun n=>.int .i64 n) v w (.returned (.int .i64 n)) W):=hid fun v W hb e=>by
   subst e
   exact ⟨rfl,S2.out.r.below hb S2.out.r.lt,P.grown_below HG2.out hb HG2.out.size⟩
  have HP:Hid (∀ W,Below w2.heap.size w2 W→w.grownBy W (some R)):=hid fun W hb=>P.grown_below HG2.out hb HG2.out.size
  go_upto_region 2 with fail
  cases hrec:c.recs with
  | nil =>
   obtain rfl:none=q:=by rw [hne.out,hrec];exact (if_neg (by simp [neOf])).symm
   rw [hrec] at t4
   have t4:w2.cell? ⟨T,4,none⟩=some (.slice c.ra 0 c.rc):=t4
   have hnn:¬(0:Int)<((0:Nat):Int):=by omega
   clear hne hrec
   (refine wp_region_ext_tail 30 (by kernel_rfl) (by kernel_rfl) (by kernel_rfl) ?_;simp only [List.take_succ_cons,List.take_zero,List.drop_succ_cons,List.drop_zero];(repeat (go_big_quiet_step (first|fail)));refine mX ?_;intro w3 hb3 hc3 hf3 hz3;intros)
   go_wp2_with fail
   refine (need_no R T w3).mono ?_
   rintro e w4 ⟨rfl,hb4⟩
   have HF:=hid (HP.out w4 (hb3.trans (hb4.mono hb3.size)))
   go_wp2_with fail
   exact ⟨rfl,rfl,HF.out⟩
  | cons y ys =>
   have hlen:0<c.recs.length:=by rw [hrec];simp
   have hnn:(0:Int)<(c.recs.length:Int):=by omega
   obtain ⟨g,hra,hgl,hcs⟩:=rec_get S2.out.c.row 0 hlen
   have hy:c.recs[0]?.getD default=y:=by rw [hrec];rfl
   have d0:=hcs 0 _ (by rw [hy];rfl)
   rw [Nat.zero_mul,Nat.add_zero] at d0
   have HNE:=hid (show q=if c.horizon<n∧n<y.num then some (n,r) else none from by rw [hne.out,hrec];simp [neOf,hiOf])
   obtain ⟨ln,hln⟩:∃ l,l=c.recs.length:=⟨_,rfl⟩
   rw [hra,←hln] at t4
   rw [←hln] at hnn hl hlen
   clear hne hcs hy hrec hln hra
   by_cases h1:c.horizon<n
   ·by_cases h2:n<y.num
    ·have e:=HNE.out
     rw [if_pos ⟨h1,h2⟩] at e
     subst e
     (refine wp_region_ext_tail 30 (by kernel_rfl) (by kernel_rfl) (by kernel_rfl) ?_;simp only [List.take_succ_cons,List.take_zero,List.drop_succ_cons,List.drop_zero];(repeat (go_big_quiet_step (first|fail)));refine mX ?_;intro w3 hb3 hc3 hf3 hz3;intros)
     go_wp2_with fail
     refine (need_yes R T w3).mono ?_
     rintro e w4 ⟨rfl,hb4⟩
     have HF:=hid (HR.out _ w4 (hb3.trans (hb4.mono hb3.size)) rfl)
     go_wp2_with fail
     exact bodyPost_ret (v:=.int .i64 n) (by simp [results,Tryz.results133,go_sem]) rfl HF.out
    ·have e:=HNE.out
     rw [if_neg (fun h=>h2 h.2)] at e
     subst e
     (refine wp_region_ext_tail 30 (by kernel_rfl) (by kernel_rfl) (by kernel_rfl) ?_;simp only [List.take_succ_cons,List.take_zero,List.drop_succ_cons,List.drop_zero];(repeat (go_big_quiet_step (first|fail)));refine mX ?_;intro w3 hb3 hc3 hf3 hz3;intros)
     go_wp2_with fail
     refine (need_no R T w3).mono ?_
     rintro e w4 ⟨rfl,hb4⟩
     have HF:=hid (HP.out w4 (hb3.trans (hb4.mono hb3.size)))
     go_wp2_with fail
     exact ⟨rfl,rfl,HF.out⟩
   ·have e:=HNE.out
    rw [if_neg (fun h=>h1 h.1)] at e
    subst e
    (refine wp_region_ext_tail 30 (by kernel_rfl) (by kernel_rfl) (by kernel_rfl) ?_;simp only [List.take_succ_cons,List.take_zero,List.drop_succ_cons,List.drop_zero];(repeat (go_big_quiet_step (first|fail)));refine mX ?_;intro w3 hb3 hc3 hf3 hz3;intros)
    go_wp2_with fail
    refine (need_no R T w3).mono ?_
    rintro e w4 ⟨rfl,hb4⟩
    have HF:=hid (HP.out w4 (hb3.trans (hb4.mono hb3.size)))
    go_wp2_with fail
    exact ⟨rfl,rfl,HF.out⟩
end Go.Proofs.YtfbachckdadhoaaGreat.C
namespace Go.Proofs.YtfbachckdadhoaaGreat.C
set_option linter.unusedVariables false
open Go.RowKit Fl
open Go.Proofs.YtfbachckdadhoaaGreat.P (RAt ReadRet wrongP getNum getKey getCount)
set_option linter.unusedSimpArgs false

theorem getKey_lt {bs r:List Nat} {x:Nat} (hb:∀ c∈bs,c<256) (h:getKey bs=some (x,r)):x<2 ^ 64:=by
 unfold P.getKey at h
 by_cases h8:bs.length<8
 ·rw [if_pos h8] at h;cases h
 ·rw [if_neg h8] at h
  by_cases hk:P.okN (P.unkeyB (bs.take 8))=true
  ·rw [if_pos hk] at h
   cases h
   exact P.ofN_lt (P.unkey_lt 8 hb (by omega))
  ·rw [if_neg hk] at h;cases h
def CL.tab (c:CL) (j:Nat):List ItV:=if j=0 then c.i1 else if j=1 then c.i2 else c.i3
def CL.tadr (c:CL) (j:Nat):Nat:=if j=0 then c.t1 else if j=1 then c.t2 else c.t3
def CL.setTab (c:CL) (j:Nat) (its:List ItV):CL:=if j=0 then { c with i1:=its } else if j=1 then { c with i2:=its } else { c with i3:=its }
theorem setTab_rest (c:CL) (j:Nat) (its:List ItV):(c.setTab j its).recs=c.recs∧(c.setTab j its).horizon=c.horizon∧(c.setTab j its).keep=c.keep∧(c.setTab j its).old=c.old∧(c.setTab j its).count=c.count∧(c.setTab j its).tadr j=c.tadr j:=by
 unfold CL.setTab CL.tadr
 split
 ·exact ⟨rfl,rfl,rfl,rfl,rfl,rfl⟩
 ·split
  ·exact ⟨rfl,rfl,rfl,rfl,rfl,rfl⟩
  ·exact ⟨rfl,rfl,rfl,rfl,rfl,rfl⟩
theorem tab_setTab (c:CL) (j:Nat) (its:List ItV):(c.setTab j its).tab j=its:=by
 unfold CL.setTab CL.tab
 split
 ·rfl
 ·split
  ·rfl
  ·rfl
theorem setTab_set (c:CL) (j:Nat) (a b:List ItV):(c.setTab j a).setTab j b=c.setTab j b:=by
 unfold CL.setTab
 split
 ·rfl
 ·split
  ·rfl
  ·rfl
theorem setTab_self (c:CL) (j:Nat):c.setTab j (c.tab j)=c:=by
 unfold CL.setTab CL.tab
 split
 ·rfl
 ·split
  ·rfl
  ·rfl
theorem putj {B T:Nat} {c:CL} {ow:Nat→Nat} {w:World} (h:CAt B T c ow w) (j:Nat) (kb:Nat) (n:Int) (hk:kb<2 ^ 64) :
  Calls Tryz.prog 111 #[.pointer (some ⟨c.tadr j,0,none⟩),.float .f64 kb,.int .i64 n] w fun e w'=>e=.returned (.int .i64 (putI (c.tab j) (mostI c.old) kb n).1)∧∃ ow',CAt B T (c.setTab j (putI (c.tab j) (mostI c.old) kb n).2) ow' w'∧Fr ow ow' w w':=by
 unfold CL.tadr CL.tab CL.setTab
 split
 ·exact put1 h kb n hk
 ·split
  ·exact put2 h kb n hk
  ·exact put3 h kb n hk
def KeysRet (B R T:Nat) (c:CL) (ow:Nat→Nat) (j:Nat) (q:Option (List ItV×List Nat)) (w:World) (e:Ending) (w':World):Prop:=match q with
 | none=>e=.panicked wrongP∧∃ ow',FrR R ow ow' w w'
 | some (its,r)=>e=.returned (.tuple #[])∧∃ ow':Nat→Nat,LSt B R T (c.setTab j its) ow' r w'∧FrR R ow ow' w w'
theorem keysN_none {most:Int} {ne:Bool} {lo hi:Int} {its:List ItV} {bs:List Nat}:∀ {i k:Nat},ldKeysN most ne lo hi its bs i=none→ldKeysN most ne lo hi its bs (i+k)=none
 | i,0,h=>h
 | i,k+1,h=>by
  show (match ldKeysN most ne lo hi its bs (i+k) with
   | none=>none
   | some s=>ldKey most ne lo hi (i+k) s)=none
  rw [keysN_none h]
def KR (B R T:Nat) (c1 c2:CL) (ow:Nat→Nat) (Y0:World) (l:List Nat) (ok:Bool):Nat→World→Prop
 | 0,x=>x=Y0
 | 1,x=>LSt B R T c1 ow l x∧FrR R ow ow Y0 x
 | 2,x=>∃ ow',LSt B R T c2 ow' l x∧FrR R ow ow' Y0 x
 | _,x=>ok=true∧∃ ow',LSt B R T c2 ow' l x∧FrR R ow ow' Y0 x
theorem KR.box {B R T:Nat} {c1 c2:CL} {ow:Nat→Nat} {Y0:World} {l:List Nat} {ok:Bool}:∀ {jj:Nat} {x:World},jj≤2→KR B R T c1 c2 ow Y0 l ok jj x→∀ X,X<Y0.heap.size→ow X=0→X≠R→x.heap[X]? = Y0.heap[X]?
 | 0,x,_,h,X,_,_,_=>by rw [show x=Y0 from h]
 | 1,x,_,h,X,h1,h2,h3=>h.2.block X h1 h2 h3
 | 2,x,_,h,X,h1,h2,h3=>by obtain ⟨ow',_,h4⟩:=h;exact h4.block X h1 h2 h3
 | n+3,_,h,_,_,_,_,_=>absurd h (by omega)
set_option maxHeartbeats 4000000 in
set_option maxRecDepth 100000 in
theorem keys_any {B R T:Nat} {c:CL} {ow:Nat→Nat} {bs:List Nat} {w:World} (h:LSt B R T c ow bs w) (hl:(c.recs.length:Int)≤40) (j:Nat) :
  Calls Tryz.prog 76 #[.agg #[.pointer (some ⟨R,0,none⟩),.pointer (some ⟨T,0,none⟩)],.pointer (some ⟨c.tadr j,0,none⟩)] w (KeysRet B R T c ow j (ldKeys (mostI c.old) (neOf c.recs) c.horizon (hiOf c.recs) (c.tab j) bs) w):=by
 obtain ⟨q,hq⟩:∃ q,ldKeys (mostI c.old) (neOf c.recs) c.horizon (hiOf c.recs) (c.tab j) bs=q:=⟨_,rfl⟩
 rw [hq]
 have HQ:=hid hq
 have HS:=hid h
 have HL:=hid hl
 obtain ⟨tt,htt⟩:∃ t,t=c.tadr j:=⟨_,rfl⟩
 have HTT:=hid htt
 rw [←htt]
 clear hq h hl htt
 go_enter Tryz.func76,Tryz.ntmps76
 go_upto_region 1 with fail
 generalize hW1:World.alloc w _=w1
 have hb1:Below w.heap.size w w1:=by rw [←hW1];exact below_auto
 have q1:w1.heap[w.heap.size]? = some (.cells #[.pointer (some ⟨R,0,none⟩),.pointer (some ⟨T,0,none⟩)] 143 (0,0)):=by rw [←hW1];exact heap_alloc_new w _
 have hRw:=HS.out.r.lt
 obtain ⟨X,hX⟩:∃ X,X=w.heap.size:=⟨_,rfl⟩
 have HG1:=hid (FrR.of_below (R:=R) ow hb1)
 have S1:=HS.out.below hb1
 have hXR:X≠R:=by omega
 have hXo:ow X=0:=Classical.byContradiction fun h0=>by have:=(HS.out.c.low X h0).2;omega
 rw [←hX] at q1 ⊢
 clear hW1 hb1 hX hRw
 obtain ⟨x0,x1,-,-⟩:=row2 q1
 have hXl:=(Array.getElem?_eq_some_iff.1 q1).1
 go_wp2_with fail
 refine (P.count_any B R 64 bs w1 S1.r).mono ?_
 intro e w2 h2
 cases h0:getCount 64 bs with
 | none =>
  obtain rfl:none=q:=by rw [←HQ.out];unfold ldKeys;rw [h0]
  rw [h0] at h2
  obtain ⟨rfl,hg⟩:=h2
  have HF:=hid (HG1.out.trans (FrR.grown ow hg))
  go_wp2_with fail
  exact ⟨rfl,rfl,_,HF.out⟩
 | some p =>
 obtain ⟨n,r⟩:=p
 have hn64:=P.count_le h0
 have HQ2:=hid (show q=(ldKeysN (mostI c.old) (neOf c.recs) c.horizon (hiOf c.recs) (c.tab j) r n).map fun s=>(s.its,s.rest) from by rw [←HQ.out];unfold ldKeys;rw [h0])
 rw [h0] at h2
 obtain ⟨rfl,hr2,hg2⟩:=h2
 have S2:=hid (S1.read hg2 hr2)
 have HG2:=hid (HG1.out.trans (FrR.grown ow hg2))
 have q2:=(hg2.block X hXl (fun e=>hXR (Option.some.inj e))).trans q1
 clear x0 x1 hr2 hg2 h0 q1 S1 hXl HG1 HQ
 obtain ⟨x0,x1,-,-⟩:=row2 q2
 have hXl:=(Array.getElem?_eq_some_iff.1 q2).1
 have HX2:=hid (And.intro hXl q2)
 go_upto_region 3 with fail
 clear x0 x1
 go_loopw [4,10] (fun t4 t10 wr=>∃ (i la:Nat) (its:List ItV) (l:List Nat) (ow':Nat→Nat),t4=.float .f64 la∧t10=.int .i64 (i:Nat)∧i≤n∧la<2 ^ 64∧Hid (ldKeysN (mostI c.old) (neOf c.recs) c.horizon (hiOf c.recs) (c.tab j) r i=some ⟨la,its,l⟩)∧Hid (LSt B R T (c.setTab j its) ow' l wr)∧Hid (FrR R ow ow' w2 wr)) (fun _ t10 _=>n-(intOf t10).toNat)
 case atStart=>exact ⟨0,0,_,r,ow,rfl,rfl,Nat.zero_le _,by omega,hid rfl,hid (by rw [setTab_self];exact S2.out),hid (FrR.refl _ _ _)⟩
 case round =>
  obtain ⟨i,la,its,l,ow',rfl,rfl,hi,hla,HM,S,F⟩:=hrel
  have q3:=(F.out.block X HX2.out.1 hXo hXR).trans HX2.out.2
  obtain ⟨x0,x1,-,-⟩:=row2 q3
  have hXl:=(Array.getElem?_eq_some_iff.1 q3).1
  by_cases hlt:i<n
  ·have hlt':(i:Int)<(n:Int):=by omega
   have HNONE:=hid fun (hx:ldKeysN (mostI c.old) (neOf c.recs) c.horizon (hiOf c.recs) (c.tab j) r (i+1)=none)=>(show q=none from by
    rw [HQ2.out]
    have:=keysN_none (k:=n-(i+1)) hx
    rw [show i+1+(n-(i+1))=n by omega] at this
    rw [this];rfl)
   have HNX:=hid (show ldKeysN (mostI c.old) (neOf c.recs) c.horizon (hiOf c.recs) (c.tab j) r (i+1)=ldKey (mostI c.old) (neOf c.recs) c.horizon (hiOf c.recs) i ⟨la,its,l⟩ from by
    show (match ldKeysN (mostI c.old) (neOf c.recs) c.horizon (hiOf c.recs) (c.tab j) r i with
     | none=>none
     | some s=>ldKey (mostI c.old) (neOf c.recs) c.horizon (hiOf c.recs) i s)=_
    rw [HM.out])
   have HX0:=hid (show ow' X=0 from (F.out.own X HX2.out.1).trans hXo)
   go_upto_region 5 with fail
   go_wp2_with fail
   refine (P.key_any B R l wr S.out.r).mono ?_
   intro e w3 h3
   cases hk:getKey l with
   | none =>
    obtain rfl:q=none:=HNONE.out (by rw [HNX.out];unfold ldKey;rw [hk])
    rw [hk] at h3
    obtain ⟨rfl,hg⟩:=h3
    have HF:=hid ((HG2.out.trans F.out).trans (FrR.grown ow' hg))
    go_wp2_with fail
    exact ⟨rfl,rfl,_,HF.out⟩
   | some p =>
   obtain ⟨kb,l2⟩:=p
   have HK:=hid hk
   rw [hk] at h3
   obtain ⟨rfl,hr3,hg3⟩:=h3
   have hkl:=getKey_lt S.out.r.byte hk
   have S3:=hid (S.out.read hg3 hr3)
   have F3:=hid (F.out.trans (FrR.grown ow' hg3))
   have q4:=(hg3.block X hXl (fun e=>hXR (Option.some.inj e))).trans q3
   clear x0 x1 hr3 hg3 hk hXl q3
   obtain ⟨x0,x1,-,-⟩:=row2 q4
   have hXl:=(Array.getElem?_eq_some_iff.1 q4).1
   go_upto_region 6 with fail
   go_cut [24] from 16 to 24 (fun t24 wc=>t24=.tuple #[]∧Hid (i=0∨flt la kb=true)∧Below w3.heap.size w3 wc)
   case first =>
    by_cases hi0:i=0
    ·have hib:((i:Int) == 0)=true:=by simpa using hi0
     have HI0:=hid hi0
     clear hi0
     go_wp2_with fail
     refine (need_yes R T w3).mono ?_
     rintro e w4 ⟨rfl,hb4⟩
     go_wp2_with fail
     go_meet
     case rel=>exact ⟨rfl,hid (.inl HI0.out),hb4⟩
    ·have hib:((i:Int) == 0)=false:=by simpa using hi0
     cases hf:flt la kb
     ·obtain rfl:q=none:=HNONE.out (by rw [HNX.out];unfold ldKey;simp only;rw [HK.out];exact if_neg (by rw [hf];simp [hi0]))
      go_wp2_with fail
      refine (need_no R T w3).mono ?_
      rintro e w4 ⟨rfl,hb4⟩
      have HF:=hid ((HG2.out.trans F3.out).trans (FrR.of_below ow' hb4))
      go_wp2_with fail
      exact ⟨rfl,rfl,_,HF.out⟩
     ·go_wp2_with fail
      refine (need_yes R T w3).mono ?_
      rintro e w4 ⟨rfl,hb4⟩
      go_wp2_with fail
      go_meet
      case rel=>exact ⟨rfl,hid (.inr (by first|exact hf|rfl)),hb4⟩
   case rest =>
   obtain ⟨rfl,HC,hb4⟩:=hcut
   obtain ⟨w4,rfl⟩:∃ x,x=wc:=⟨_,rfl⟩
   have S4:=hid (S3.out.below hb4)
   have F4:=hid (F3.out.trans (FrR.of_below ow' hb4))
   have q5:=(hb4.block X hXl).trans q4
   clear x0 x1 hXl q4 hb4 S3 F3
   go_upto_region 8 with fail
   obtain ⟨Y0,hY0⟩:∃ Y:World,Y = { w4 with drawn:=w4.drawn+1 }:=⟨_,rfl⟩
   have hb0:Below w4.heap.size w4 Y0:=by rw [hY0];exact Below.drew (Below.refl _ _)
   have SY:=hid (S4.out.below hb0)
   have FY:=hid (F4.out.trans (FrR.of_below ow' hb0))
   have HXY:=hid (show X<Y0.heap.size∧Y0.heap[X]? = some (.cells #[.pointer (some ⟨R,0,none⟩),.pointer (some ⟨T,0,none⟩)] 143 (0,0)) from by
    have:=(hb0.block X (Array.getElem?_eq_some_iff.1 q5).1).trans q5
    exact ⟨(Array.getElem?_eq_some_iff.1 this).1,this⟩)
   obtain ⟨e1,e2,e3,e4,e5,e6⟩:=setTab_rest c j its
   have HOLD:=hid (show Calls Tryz.prog 133 #[.agg #[.pointer (some ⟨R,0,none⟩),.pointer (some ⟨T,0,none⟩)]] Y0 (ReadRet B R (fun n=>.int .i64 n) (ldOld (neOf c.recs) c.horizon (hiOf c.recs) l2) Y0) from by
    have:=old_any SY.out (by rw [e1];exact HL.out)
    rw [e1,e2] at this
    exact this)
   have HY0:=hid hY0
   clear hY0 hb0 q5 S4 F4 e1 e2 e3 e5
   cases ho:ldOld (neOf c.recs) c.horizon (hiOf c.recs) l2 with
   | none =>
    obtain rfl:q=none:=HNONE.out (by rw [HNX.out];unfold ldKey;simp only;rw [HK.out];simp only;rw [if_pos HC.out,ho])
    rw [ho] at HOLD
    refine wp_region_chain (fun i=>[Value.agg #[.pointer (some ⟨R,0,none⟩),.pointer (some ⟨T,0,none⟩)],.pointer (some ⟨tt,0,none⟩),.float .f64 kb,.agg #[.pointer (some ⟨R,0,none⟩),.pointer (some ⟨T,0,none⟩)]].getD i undef) (fun j x=>j=0∧x=Y0) (fun c x=>c=wrongP∧Y0.grownBy x (some R)) [4,5,7] rfl (by kernel_rfl) (by kernel_rfl) (by decide) (by decide) ⟨rfl,HY0.out.symm⟩ ?_ ?_ ?_
    ·simp only [StepsC,List.nil_append,List.cons_append]
     refine ⟨?_,?_,?_,?_,?o4,?o5,?o6,?o7,trivial⟩
     case o5 =>
      intro jj x g1 g2 hx
      obtain ⟨rfl,rfl⟩:=hx
      exact absurd g1 (by decide +kernel)
     case o6 =>
      intro jj x g1 g2 hx
      obtain ⟨rfl,rfl⟩:=hx
      exact absurd g1 (by decide +kernel)
     case o7 =>
      intro jj x g1 g2 hx
      obtain ⟨rfl,rfl⟩:=hx
      exact absurd g1 (by decide +kernel)
     case o4 =>
      intro jj x g1 g2 hx
      obtain ⟨rfl,rfl⟩:=hx
      generalize hR:(fun v w'=>(_→v=_)∧_)=RR
      have HR:=hid hR
      clear hR g1 g2
      simp only [putsFrom,Act.put,qA,qB,qC,Nat.zero_add,Nat.reduceAdd,List.getD_cons_zero,List.getD_cons_succ]
      go_wp2_with fail
      refine HOLD.out.mono ?_
      rintro e w9 ⟨rfl,hg9⟩
      go_wp2_with fail
      exact ⟨rfl,hg9⟩
     all_goals
      intro jj x g1 g2 hx
      obtain ⟨rfl,rfl⟩:=hx
      obtain ⟨x0,x1,-,-⟩:=row2 HXY.out.2
      generalize hR:(fun v w'=>(_→v=_)∧_)=RR
      have HR:=hid hR
      clear hR g1 g2
      try simp only [putsFrom,Act.put,qA,qB,qC,Nat.zero_add,Nat.reduceAdd,List.getD_cons_zero,List.getD_cons_succ]
      go_wp2_with fail
      have hR:=HR.out
      subst hR
      exact ⟨rfl,fun _=>rfl,rfl,rfl⟩
    ·intro x hx
     exact absurd hx.1 (by decide)
    ·intro c a x hd hx
     obtain ⟨rfl,hg⟩:=hx
     exact ⟨hd,rfl,_,(HG2.out.trans FY.out).trans (FrR.grown ow' hg)⟩
   | some p =>
   obtain ⟨n2,l3⟩:=p
   have HO:=hid ho
   rw [ho] at HOLD
   obtain ⟨cd,hcd⟩:∃ v,(putI its (mostI c.old) kb n2).1=v:=⟨_,rfl⟩
   obtain ⟨its2,hits2⟩:∃ v,(putI its (mostI c.old) kb n2).2=v:=⟨_,rfl⟩
   obtain ⟨okb,hok⟩:∃ b,(cd == 0)=b:=⟨_,rfl⟩
   have HPUT:=hid fun (x:World) (hx:LSt B R T (c.setTab j its) ow' l3 x)=>(show Calls Tryz.prog 111 #[.pointer (some ⟨tt,0,none⟩),.float .f64 kb,.int .i64 n2] x (fun e w'=>e=.returned (.int .i64 cd)∧∃ ow'',LSt B R T (c.setTab j its2) ow'' l3 w'∧Fr ow' ow'' x w') from by
    have:=putj hx.c j kb n2 hkl
    rw [e6,tab_setTab,e4,hcd,hits2,setTab_set,←HTT.out] at this
    refine this.mono ?_
    rintro e w' ⟨rfl,ow'',k1,k2⟩
    exact ⟨rfl,ow'',hx.step k1 k2,k2⟩)
   have HFAIL:=hid fun (h:okb=false)=>(show q=none from HNONE.out (by
    rw [HNX.out];unfold ldKey;simp only;rw [HK.out];simp only;rw [if_pos HC.out,HO.out];simp only
    rw [hcd]
    exact if_neg (by intro e;rw [e] at hok;rw [←hok] at h;cases h)))
   have HYES:=hid fun (h:okb=true)=>(show ldKeysN (mostI c.old) (neOf c.recs) c.horizon (hiOf c.recs) (c.tab j) r (i+1)=some ⟨kb,its2,l3⟩ from by
    rw [HNX.out];unfold ldKey;simp only;rw [HK.out];simp only;rw [if_pos HC.out,HO.out];simp only
    rw [hcd,hits2]
    exact if_pos (by rw [h] at hok;simpa using hok))
   have HOK:=hid hok
   clear hcd hits2 hok ho e4 e6
   refine wp_region_chain (fun i=>[Value.agg #[.pointer (some ⟨R,0,none⟩),.pointer (some ⟨T,0,none⟩)],.pointer (some ⟨tt,0,none⟩),.float .f64 kb,.agg #[.pointer (some ⟨R,0,none⟩),.pointer (some ⟨T,0,none⟩)],.int .i64 n2,.int .i64 cd,.bool okb,.tuple #[]].getD i undef) (KR B R T (c.setTab j its) (c.setTab j its2) ow' Y0 l3 okb) (fun c x=>c=wrongP∧okb=false∧∃ ow'',FrR R ow' ow'' Y0 x) [4,5,7] rfl (by kernel_rfl) (by kernel_rfl) (by decide) (by decide) HY0.out.symm ?_ ?_ ?_
   ·simp only [StepsC,List.nil_append,List.cons_append]
    refine ⟨?l0,?_,?_,?l3,?o4,?o5,?_,?o7,trivial⟩
    case l0 =>
     intro jj x g1 g2 hx
     have hq:=(KR.box (Nat.le_trans g2 (by decide +kernel)) hx X HXY.out.1 HX0.out hXR).trans HXY.out.2
     obtain ⟨x0,x1,-,-⟩:=row2 hq
     clear hq
     generalize hR:(fun v w'=>(_→v=_)∧_)=RR
     have HR:=hid hR
     have HXX:=hid hx
     clear hR g1 g2 hx
     try simp only [putsFrom,Act.put,qA,qB,qC,Nat.zero_add,Nat.reduceAdd,List.getD_cons_zero,List.getD_cons_succ]
     go_wp2_with fail
     have hR:=HR.out
     subst hR
     exact ⟨rfl,fun _=>rfl,HXX.out⟩
    case l3 =>
     intro jj x g1 g2 hx
     have hq:=(KR.box (Nat.le_trans g2 (by decide +kernel)) hx X HXY.out.1 HX0.out hXR).trans HXY.out.2
     obtain ⟨x0,x1,-,-⟩:=row2 hq
     clear hq
     generalize hR:(fun v w'=>(_→v=_)∧_)=RR
     have HR:=hid hR
     have HXX:=hid hx
     clear hR g1 g2 hx
     try simp only [putsFrom,Act.put,qA,qB,qC,Nat.zero_add,Nat.reduceAdd,List.getD_cons_zero,List.getD_cons_succ]
     go_wp2_with fail
     have hR:=HR.out
     subst hR
     exact ⟨rfl,fun _=>rfl,HXX.out⟩
    case o4 =>
     intro jj x g1 g2 hx
     obtain rfl:jj=0:=Nat.le_zero.1 (Nat.le_trans g2 (by decide +kernel))
     obtain rfl:x=Y0:=hx
     generalize hR:(fun v w'=>(_→v=_)∧_)=RR
     have HR:=hid hR
     clear hR g1 g2
     simp only [putsFrom,Act.put,qA,qB,qC,Nat.zero_add,Nat.reduceAdd,List.getD_cons_zero,List.getD_cons_succ]
     go_wp2_with fail
     refine HOLD.out.mono ?_
     rintro e w9 ⟨rfl,hr9,hg9⟩
     have HE:Hid (KR B R T (c.setTab j its) (c.setTab j its2) ow' x l3 okb 1 w9):=hid ⟨SY.out.read hg9 hr9,FrR.grown ow' hg9⟩
     clear hr9 hg9
     go_wp2_with fail
     have hR:=HR.out
     subst hR
     exact ⟨rfl,fun _=>rfl,HE.out⟩
    case o5 =>
     intro jj x g1 g2 hx
     obtain rfl:jj=1:=Nat.le_antisymm (Nat.le_trans g2 (by decide +kernel)) (Nat.le_trans (by decide +kernel) g1)
     obtain ⟨hS,hF⟩:=hx
     have HC2:=hid (HPUT.out x hS)
     have HF:=hid hF
     generalize hR:(fun v w'=>(_→v=_)∧_)=RR
     have HR:=hid hR
     clear hR g1 g2 hS hF
     simp only [putsFrom,Act.put,qA,qB,qC,Nat.zero_add,Nat.reduceAdd,List.getD_cons_zero,List.getD_cons_succ]
     go_wp2_with fail
     refine HC2.out.mono ?_
     rintro e w9 ⟨rfl,ow'',k1,k2⟩
     have HE:Hid (KR B R T (c.setTab j its) (c.setTab j its2) ow' Y0 l3 okb 2 w9):=hid ⟨ow'',k1,HF.out.trans (FrR.of k2)⟩
     clear k1 k2
     go_wp2_with fail
     have hR:=HR.out
     subst hR
     exact ⟨rfl,fun _=>rfl,HE.out⟩
    case o7 =>
     intro jj x g1 g2 hx
     obtain rfl:jj=2:=Nat.le_antisymm (Nat.le_trans g2 (by decide +kernel)) (Nat.le_trans (by decide +kernel) g1)
     obtain ⟨ow'',k1,k2⟩:=hx
     have K1:=hid k1;have K2:=hid k2
     generalize hR:(fun v w'=>(_→v=_)∧_)=RR
     have HR:=hid hR
     clear hR g1 g2 k1 k2
     simp only [putsFrom,Act.put,qA,qB,qC,Nat.zero_add,Nat.reduceAdd,List.getD_cons_zero,List.getD_cons_succ]
     cases hob:okb
     ·rw [hob] at HR
      go_wp2_with fail
      refine (need_no R T x).mono ?_
      rintro e w9 ⟨rfl,hb9⟩
      have HE:=hid (K2.out.trans (FrR.of_below ow'' hb9))
      clear hb9
      go_wp2_with fail
      exact ⟨rfl,ow'',HE.out⟩
     ·go_wp2_with fail
      refine (need_yes R T x).mono ?_
      rintro e w9 ⟨rfl,hb9⟩
      have HE:Hid (KR B R T (c.setTab j its) (c.setTab j its2) ow' Y0 l3 okb 3 w9):=hid ⟨hob,ow'',K1.out.below hb9,K2.out.trans (FrR.of_below ow'' hb9)⟩
      clear hb9
      go_wp2_with fail
      have hR:=HR.out
      subst hR
      exact ⟨rfl,fun _=>rfl,HE.out⟩
    all_goals
     intro jj x g1 g2 hx
     have hok:=HOK.out
     generalize hR:(fun v w'=>(_→v=_)∧_)=RR
     have HR:=hid hR
     have HXX:=hid hx
     clear hR g1 g2 hx
     try simp only [putsFrom,Act.put,qA,qB,qC,Nat.zero_add,Nat.reduceAdd,List.getD_cons_zero,List.getD_cons_succ]
     go_wp2_with fail
     have hR:=HR.out
     subst hR
     exact ⟨rfl,fun _=>rfl,HXX.out⟩
   ·intro x hx
    obtain ⟨hok,ow'',k1,k2⟩:=hx
    have HM3:=hid (HYES.out hok)
    have K1:=hid k1
    have K2:=hid (FY.out.trans k2)
    clear k1 k2
    simp only [putsFrom,Act.put,qA,qB,qC,Nat.zero_add,Nat.reduceAdd,List.getD_cons_zero,List.getD_cons_succ]
    go_wp2_with fail
    go_roundw
    case rel=>exact ⟨i+1,kb,its2,l3,ow'',rfl,by go_num,by omega,hkl,HM3,K1,K2⟩
    case measure=>simp [intOf];omega
   ·intro c a x hd hx
    obtain ⟨rfl,hob,ow'',hf⟩:=hx
    obtain rfl:=HFAIL.out hob
    exact ⟨hd,rfl,_,(HG2.out.trans FY.out).trans hf⟩
  ·obtain rfl:i=n:=by omega
   have hge:¬(i:Int)<(i:Int):=by omega
   have hq:q=some (its,l):=by rw [HQ2.out,HM.out];rfl
   subst hq
   have HF:=hid (show KeysRet B R T c ow j (some (its,l)) w (.returned (.tuple #[])) wr from ⟨rfl,ow',S.out,HG2.out.trans F.out⟩)
   go_wp2_with fail
   go_end0
   exact HF.out
end Go.Proofs.YtfbachckdadhoaaGreat.C
namespace Go.Proofs.YtfbachckdadhoaaGreat.C
set_option linter.unusedVariables false
open Go.RowKit Fl
open Go.Proofs.YtfbachckdadhoaaGreat.P (RAt ReadRet wrongP getNum getKey getCount)
set_option linter.unusedSimpArgs false

theorem set4 {w:World} {g:Nat} {T:TypeId} {a0 a1 a2 a3:Value} (h:w.heap[g]? = some (.cells #[a0,a1,a2,a3] T (0,0))) (v0 v1 v2 v3:Value) :
  ((((w.setCell ⟨g,0,none⟩ v0).setCell ⟨g,1,none⟩ v1).setCell ⟨g,2,none⟩ v2).setCell ⟨g,3,none⟩ v3).heap[g]? = some (.cells #[v0,v1,v2,v3] T (0,0)) ∧
  w.grownBy ((((w.setCell ⟨g,0,none⟩ v0).setCell ⟨g,1,none⟩ v1).setCell ⟨g,2,none⟩ v2).setCell ⟨g,3,none⟩ v3) (some g):=by
 obtain ⟨q0,k0⟩:=K.set1 (i:=0) h v0
 obtain ⟨q1,k1⟩:=K.set1 (i:=1) q0 v1
 obtain ⟨q2,k2⟩:=K.set1 (i:=2) q1 v2
 obtain ⟨q3,k3⟩:=K.set1 (i:=3) q2 v3
 exact ⟨q3,((k0.trans k1).trans k2).trans k3⟩
theorem LSt.touch {B R T Z:Nat} {c:CL} {ow:Nat→Nat} {bs:List Nat} {w w':World} (h:LSt B R T c ow bs w) (hg:w.grownBy w' (some Z)) (h0:ow Z=0) (hR:Z≠R) (hB:B≤Z):LSt B R T c ow bs w' :=
 ⟨h.c.keep hg.size fun k hk hk0=>hg.block k hk fun e=>hk0 (by rw [Option.some.inj e];exact h0),h.r.keep (hg.block R h.r.lt fun e=>hR (Option.some.inj e).symm) fun b hb=>hg.block b (Nat.lt_of_lt_of_le hb h.c.hB) fun e=>by have:=Option.some.inj e;omega,h.z,h.b⟩
theorem FrR.touch {R Z:Nat} {o1 ow:Nat→Nat} {w0 w w':World} (h:FrR R o1 ow w0 w) (hg:w.grownBy w' (some Z)) (hZ:w0.heap.size≤Z):FrR R o1 ow w0 w' :=
 ⟨hg.os.trans h.os,hg.tape.trans h.tape,hg.output.trans h.output,Nat.le_trans h.size hg.size,fun k hk h0 hR=>(hg.block k (Nat.lt_of_lt_of_le hk h.size) fun e=>by have:=Option.some.inj e;omega).trans (h.block k hk h0 hR),h.own⟩
structure SB (X Z R T la lb:Nat) (ow:Nat→Nat) (w:World):Prop where
 x:w.heap[X]? = some (.cells #[.pointer (some ⟨R,0,none⟩),.pointer (some ⟨T,0,none⟩)] 143 (0,0))
 z:w.heap[Z]? = some (.cells #[.float .f64 la,.float .f64 lb,.bool false,.bool false] 87 (0,0))
 x0:ow X=0
 z0:ow Z=0
theorem SB.step {X Z R T la lb:Nat} {ow ow':Nat→Nat} {w w':World} (h:SB X Z R T la lb ow w) (f:FrR R ow ow' w w') (hX:X≠R) (hZ:Z≠R):SB X Z R T la lb ow' w':=by
 have h1:=(Array.getElem?_eq_some_iff.1 h.x).1
 have h2:=(Array.getElem?_eq_some_iff.1 h.z).1
 exact ⟨(f.block X h1 h.x0 hX).trans h.x,(f.block Z h2 h.z0 hZ).trans h.z,(f.own X h1).trans h.x0,(f.own Z h2).trans h.z0⟩
def SpsRet (B R T:Nat) (c:CL) (ow:Nat→Nat) (q:Option (List Q.ItV×List Nat)) (w:World) (e:Ending) (w':World):Prop:=match q with
 | none=>e=.panicked wrongP∧∃ ow',FrR R ow ow' w w'
 | some (its,r)=>e=.returned (.tuple #[])∧∃ ow':Nat→Nat,LSt B R T { c with i4:=its } ow' r w'∧FrR R ow ow' w w'
theorem spsN_none {most:Int} {ne:Bool} {lo hi:Int} {its:List Q.ItV} {bs:List Nat}:∀ {i k:Nat},ldSpsN most ne lo hi its bs i=none→ldSpsN most ne lo hi its bs (i+k)=none
 | i,0,h=>h
 | i,k+1,h=>by
  show (match ldSpsN most ne lo hi its bs (i+k) with
   | none=>none
   | some s=>ldSp most ne lo hi (i+k) s)=none
  rw [spsN_none h]
set_option maxHeartbeats 4000000 in
set_option maxRecDepth 100000 in
theorem ranges_any {B R T:Nat} {c:CL} {ow:Nat→Nat} {bs:List Nat} {w:World} (h:LSt B R T c ow bs w) (hl:(c.recs.length:Int)≤40) :
  Calls Tryz.prog 77 #[.agg #[.pointer (some ⟨R,0,none⟩),.pointer (some ⟨T,0,none⟩)],.pointer (some ⟨c.t4,0,none⟩)] w (SpsRet B R T c ow (ldSps (mostI c.old) (neOf c.recs) c.horizon (hiOf c.recs) c.i4 bs) w):=by
 obtain ⟨q,hq⟩:∃ q,ldSps (mostI c.old) (neOf c.recs) c.horizon (hiOf c.recs) c.i4 bs=q:=⟨_,rfl⟩
 rw [hq]
 have HQ:=hid hq
 have HS:=hid h
 have HL:=hid hl
 obtain ⟨tt,htt⟩:∃ t,t=c.t4:=⟨_,rfl⟩
 have HTT:=hid htt
 rw [←htt]
 clear hq h hl htt
 go_enter Tryz.func77,Tryz.ntmps77
 go_upto_region 2 with fail
 generalize hW1:World.alloc (World.alloc w _) _=w1
 have hb1:Below w.heap.size w w1:=by rw [←hW1];exact below_auto
 obtain ⟨q1,z1⟩:=two_alloc w (.cells #[.pointer (some ⟨R,0,none⟩),.pointer (some ⟨T,0,none⟩)] 143 (0,0)) (.cells #[.float .f64 0,.float .f64 0,.bool false,.bool false] 87 (0,0))
 rw [hW1] at q1 z1
 have hRw:=HS.out.r.lt
 obtain ⟨X,hX⟩:∃ X,X=w.heap.size:=⟨_,rfl⟩
 obtain ⟨Z,hZ⟩:∃ Z,Z=w.heap.size+1:=⟨_,rfl⟩
 have HG1:=hid (FrR.of_below (R:=R) ow hb1)
 have S1:=HS.out.below hb1
 have hXR:X≠R:=by omega
 have hZR:Z≠R:=by omega
 have hXo:ow X=0:=Classical.byContradiction fun h0=>by have:=(HS.out.c.low X h0).2;omega
 have hZo:ow Z=0:=Classical.byContradiction fun h0=>by have:=(HS.out.c.low Z h0).2;omega
 have HXZ:=hid (show X≠Z by omega)
 have HZB:=hid (show w.heap.size≤Z by omega)
 have HBZ:=hid (show B≤Z by have:=S1.c.hB;have:=HS.out.c.hB;omega)
 rw [←hZ] at z1 ⊢
 rw [←hX] at q1 ⊢
 have HB1:=hid (show SB X Z R T 0 0 ow w1 from ⟨q1,z1,hXo,hZo⟩)
 clear hW1 hb1 hX hZ hRw
 obtain ⟨x0,x1,-,-⟩:=row2 q1
 go_wp2_with fail
 refine (P.count_any B R 64 bs w1 S1.r).mono ?_
 intro e w2 h2
 cases h0:getCount 64 bs with
 | none =>
  obtain rfl:none=q:=by rw [←HQ.out];unfold ldSps;rw [h0]
  rw [h0] at h2
  obtain ⟨rfl,hg⟩:=h2
  have HF:=hid (HG1.out.trans (FrR.grown ow hg))
  go_wp2_with fail
  exact ⟨rfl,rfl,_,HF.out⟩
 | some p =>
 obtain ⟨n,r⟩:=p
 have hn64:=P.count_le h0
 have HQ2:=hid (show q=(ldSpsN (mostI c.old) (neOf c.recs) c.horizon (hiOf c.recs) c.i4 r n).map fun s=>(s.its,s.rest) from by rw [←HQ.out];unfold ldSps;rw [h0])
 rw [h0] at h2
 obtain ⟨rfl,hr2,hg2⟩:=h2
 have S2:=hid (S1.read hg2 hr2)
 have HG2:=hid (HG1.out.trans (FrR.grown ow hg2))
 have HB2:=hid (HB1.out.step (FrR.grown ow hg2) hXR hZR)
 clear x0 x1 hr2 hg2 h0 q1 z1 S1 HG1 HQ HB1 hXo hZo
 obtain ⟨x0,x1,-,-⟩:=row2 HB2.out.x
 go_upto_region 3 with fail
 clear x0 x1
 go_loopw [11] (fun t11 wr=>∃ (i la lb:Nat) (its:List Q.ItV) (l:List Nat) (ow':Nat→Nat),t11=.int .i64 (i:Nat)∧i≤n∧la<2 ^ 64∧lb<2 ^ 64∧Hid (ldSpsN (mostI c.old) (neOf c.recs) c.horizon (hiOf c.recs) c.i4 r i=some ⟨canonS la lb false false,its,l⟩)∧Hid (LSt B R T { c with i4:=its } ow' l wr)∧Hid (FrR R ow ow' w wr)∧Hid (SB X Z R T la lb ow' wr)) (fun t11 _=>n-(intOf t11).toNat)
 case atStart=>exact ⟨0,0,0,_,r,ow,rfl,Nat.zero_le _,by omega,by omega,hid rfl,hid S2.out,hid HG2.out,hid HB2.out⟩
 case round =>
  obtain ⟨i,la,lb,its,l,ow',rfl,hi,hla,hlb,HM,S,F,HB⟩:=hrel
  clear S2 HG2 HB2
  obtain ⟨x0,x1,-,-⟩:=row2 HB.out.x
  have hXl:=(Array.getElem?_eq_some_iff.1 HB.out.x).1
  by_cases hlt:i<n
  ·have hlt':(i:Int)<(n:Int):=by omega
   have HNONE:=hid fun (hx:ldSpsN (mostI c.old) (neOf c.recs) c.horizon (hiOf c.recs) c.i4 r (i+1)=none)=>(show q=none from by
    rw [HQ2.out]
    have:=spsN_none (k:=n-(i+1)) hx
    rw [show i+1+(n-(i+1))=n by omega] at this
    rw [this];rfl)
   have HNX:=hid (show ldSpsN (mostI c.old) (neOf c.recs) c.horizon (hiOf c.recs) c.i4 r (i+1)=ldSp (mostI c.old) (neOf c.recs) c.horizon (hiOf c.recs) i ⟨canonS la lb false false,its,l⟩ from by
    show (match ldSpsN (mostI c.old) (neOf c.recs) c.horizon (hiOf c.recs) c.i4 r i with
     | none=>none
     | some s=>ldSp (mostI c.old) (neOf c.recs) c.horizon (hiOf c.recs) i s)=_
    rw [HM.out])
   go_upto_region 5 with fail
   go_wp2_with fail
   refine (P.key_any B R l wr S.out.r).mono ?_
   intro e w3 h3
   cases hk:getKey l with
   | none =>
    obtain rfl:q=none:=HNONE.out (by rw [HNX.out];unfold ldSp;rw [hk])
    rw [hk] at h3
    obtain ⟨rfl,hg⟩:=h3
    have HF:=hid (F.out.trans (FrR.grown ow' hg))
    go_wp2_with fail
    exact ⟨rfl,rfl,_,HF.out⟩
   | some p =>
   obtain ⟨kb,l2⟩:=p
   have HK:=hid hk
   rw [hk] at h3
   obtain ⟨rfl,hr3,hg3⟩:=h3
   have hkl:=getKey_lt S.out.r.byte hk
   have S3:=hid (S.out.read hg3 hr3)
   have F3:=hid (F.out.trans (FrR.grown ow' hg3))
   have HB3:=hid (HB.out.step (FrR.grown ow' hg3) hXR hZR)
   clear x0 x1 hr3 hg3 hk hXl S F HB
   obtain ⟨x0,x1,-,-⟩:=row2 HB3.out.x
   have hXl:=(Array.getElem?_eq_some_iff.1 HB3.out.x).1
   go_upto_region 6 with fail
   go_wp2_with fail
   refine (P.key_any B R l2 w3 S3.out.r).mono ?_
   intro e w4 h4
   cases hk2:getKey l2 with
   | none =>
    obtain rfl:q=none:=HNONE.out (by rw [HNX.out];unfold ldSp;simp only;rw [HK.out];simp only;rw [hk2])
    rw [hk2] at h4
    obtain ⟨rfl,hg⟩:=h4
    have HF:=hid (F3.out.trans (FrR.grown ow' hg))
    go_wp2_with fail
    exact ⟨rfl,rfl,_,HF.out⟩
   | some p =>
   obtain ⟨zb,l4⟩:=p
   have HK2:=hid hk2
   rw [hk2] at h4
   obtain ⟨rfl,hr4,hg4⟩:=h4
   have hzl:=getKey_lt S3.out.r.byte hk2
   have S4:=hid (S3.out.read hg4 hr4)
   have F4:=hid (F3.out.trans (FrR.grown ow' hg4))
   have HB4:=hid (HB3.out.step (FrR.grown ow' hg4) hXR hZR)
   clear x0 x1 hr4 hg4 hk2 hXl S3 F3 HB3
   go_upto_region 7 with fail
   generalize hW5:World.alloc w4 _=w5
   have hb5:Below w4.heap.size w4 w5:=by rw [←hW5];exact below_auto
   have y5:w5.heap[w4.heap.size]? = some (.cells #[.float .f64 kb,.float .f64 zb,.bool false,.bool false] 87 (0,0)):=by rw [←hW5];exact heap_alloc_new w4 _
   obtain ⟨Y,hY⟩:∃ Y,Y=w4.heap.size:=⟨_,rfl⟩
   rw [←hY] at y5 ⊢
   have hYR:Y≠R:=by have:=S4.out.r.lt;omega
   have hYo:ow' Y=0:=Classical.byContradiction fun h0=>by have:=(S4.out.c.low Y h0).2;omega
   have hZY:Z≠Y:=by have:=(Array.getElem?_eq_some_iff.1 HB4.out.z).1;omega
   have S5:=hid (S4.out.below hb5)
   have F5:=hid (F4.out.trans (FrR.of_below ow' hb5))
   have HB5:=hid (HB4.out.step (FrR.of_below ow' hb5) hXR hZR)
   clear hW5 hb5 hY S4 F4 HB4
   obtain ⟨x0,x1,-,-⟩:=row2 HB5.out.x
   obtain ⟨z0,z1,z2,z3,-⟩:=row4 HB5.out.z
   obtain ⟨y0,y1,y2,y3,-⟩:=row4 y5
   have hXl:=(Array.getElem?_eq_some_iff.1 HB5.out.x).1
   have hZl:=(Array.getElem?_eq_some_iff.1 HB5.out.z).1
   have hYl:=(Array.getElem?_eq_some_iff.1 y5).1
   obtain ⟨cv,hcv⟩:∃ v,cmpR (canonS kb zb false false) (canonS la lb false false)=v:=⟨_,rfl⟩
   have HCMP:=hid fun W=>(show Calls Tryz.prog 134 #[.agg #[.float .f64 kb,.float .f64 zb,.bool false,.bool false],.agg #[.float .f64 la,.float .f64 lb,.bool false,.bool false]] W (Ret (.int .i64 cv) W) from by
    have:=cmp_any kb zb la lb false false false false W hkl hzl hla hlb
    rw [hcv] at this
    exact this)
   have HCV:=hid hcv
   clear hcv
   go_cut [31] from 22 to 31 (fun t31 wc=>t31=.tuple #[]∧Hid (i=0∨0<cv)∧Below w5.heap.size w5 wc)
   case first =>
    by_cases hi0:i=0
    ·have hib:((i:Int) == 0)=true:=by simpa using hi0
     have HI0:=hid hi0
     clear hi0
     (refine wp_region_ext_tail 9 (by kernel_rfl) (by kernel_rfl) (by kernel_rfl) ?_;simp only [List.take_succ_cons,List.take_zero,List.drop_succ_cons,List.drop_zero];(repeat (go_big_quiet_step (first|fail)));refine mX ?_;intro w6 hb6 hc6 hf6 hz6;intros)
     go_wp2_with fail
     refine (need_yes R T w6).mono ?_
     rintro e w7 ⟨rfl,hb7⟩
     have HB:=hid (hb6.trans (hb7.mono hb6.size))
     go_wp2_with fail
     go_meet
     case rel=>exact ⟨rfl,hid (.inl HI0.out),HB.out⟩
    ·have hib:((i:Int) == 0)=false:=by simpa using hi0
     by_cases hf:0<cv
     ·(refine wp_region_ext_tail 9 (by kernel_rfl) (by kernel_rfl) (by kernel_rfl) ?_;simp only [List.take_succ_cons,List.take_zero,List.drop_succ_cons,List.drop_zero];(repeat (go_big_quiet_step (first|(go_at_call 134;with_reducible exact Calls.ext_of (HCMP.out _)))));refine mX ?_;intro w6 hb6 hc6 hf6 hz6;intros)
      go_wp2_with fail
      refine (need_yes R T w6).mono ?_
      rintro e w7 ⟨rfl,hb7⟩
      have HB:=hid (hb6.trans (hb7.mono hb6.size))
      go_wp2_with fail
      go_meet
      case rel=>exact ⟨rfl,hid (.inr hf),HB.out⟩
     ·obtain rfl:q=none:=HNONE.out (by rw [HNX.out];unfold ldSp;simp only;rw [HK.out];simp only;rw [HK2.out];exact if_neg (by rw [HCV.out];simp [hi0];omega))
      (refine wp_region_ext_tail 9 (by kernel_rfl) (by kernel_rfl) (by kernel_rfl) ?_;simp only [List.take_succ_cons,List.take_zero,List.drop_succ_cons,List.drop_zero];(repeat (go_big_quiet_step (first|(go_at_call 134;with_reducible exact Calls.ext_of (HCMP.out _)))));refine mX ?_;intro w6 hb6 hc6 hf6 hz6;intros)
      go_wp2_with fail
      refine (need_no R T w6).mono ?_
      rintro e w7 ⟨rfl,hb7⟩
      have HF:=hid (F5.out.trans (FrR.of_below ow' (hb6.trans (hb7.mono hb6.size))))
      go_wp2_with fail
      exact ⟨rfl,rfl,_,HF.out⟩
   case rest =>
   obtain ⟨rfl,HC,hb6⟩:=hcut
   obtain ⟨w6,rfl⟩:∃ x,x=wc:=⟨_,rfl⟩
   have S6:=hid (S5.out.below hb6)
   have F6:=hid (F5.out.trans (FrR.of_below ow' hb6))
   have HB6:=hid (HB5.out.step (FrR.of_below ow' hb6) hXR hZR)
   have y6:=(hb6.block Y (Array.getElem?_eq_some_iff.1 y5).1).trans y5
   clear x0 x1 z0 z1 z2 z3 y0 y1 y2 y3 hXl hZl hYl y5 hb6 S5 F5 HB5
   obtain ⟨z0,z1,z2,z3,k0,k1,k2,k3⟩:=row4 HB6.out.z
   obtain ⟨y0,y1,y2,y3,-⟩:=row4 y6
   have hZl:=(Array.getElem?_eq_some_iff.1 HB6.out.z).1
   go_upto_region 9 with fail
   obtain ⟨hZ7,gZ⟩:=set4 HB6.out.z (.float .f64 kb) (.float .f64 zb) (.bool false) (.bool false)
   generalize hW7:((((w6.setCell ⟨Z,0,none⟩ (.float .f64 kb)).setCell ⟨Z,1,none⟩ (.float .f64 zb)).setCell ⟨Z,2,none⟩ (.bool false)).setCell ⟨Z,3,none⟩ (.bool false))=w7 at *
   have S7:=hid (S6.out.touch gZ HB6.out.z0 hZR HBZ.out)
   have F7:=hid (F6.out.touch gZ HZB.out)
   have y7:=(gZ.block Y (Array.getElem?_eq_some_iff.1 y6).1 (fun e=>hZY (Option.some.inj e).symm)).trans y6
   have HB7:=hid (show SB X Z R T kb zb ow' w7 from ⟨(gZ.block X (Array.getElem?_eq_some_iff.1 HB6.out.x).1 (fun e=>HXZ.out (Option.some.inj e))).trans HB6.out.x,hZ7,HB6.out.x0,HB6.out.z0⟩)
   clear z0 z1 z2 z3 k0 k1 k2 k3 y0 y1 y2 y3 y6 hZ7 gZ hW7 S6 F6 HB6 hZl
   obtain ⟨Y0,hY0⟩:∃ Y:World,Y = { w7 with drawn:=w7.drawn+1 }:=⟨_,rfl⟩
   have hb0:Below w7.heap.size w7 Y0:=by rw [hY0];exact Below.drew (Below.refl _ _)
   have SY:=hid (S7.out.below hb0)
   have FY:=hid (F7.out.trans (FrR.of_below ow' hb0))
   have HBY:=hid (HB7.out.step (FrR.of_below ow' hb0) hXR hZR)
   have HXY:=hid (And.intro (Array.getElem?_eq_some_iff.1 HBY.out.x).1 HBY.out.x)
   have HX0:=hid HBY.out.x0
   have HYY:=hid (show Y<Y0.heap.size∧Y0.heap[Y]? = some (.cells #[.float .f64 kb,.float .f64 zb,.bool false,.bool false] 87 (0,0)) from by
    have:=(hb0.block Y (Array.getElem?_eq_some_iff.1 y7).1).trans y7
    exact ⟨(Array.getElem?_eq_some_iff.1 this).1,this⟩)
   have HY1:=hid hYo
   have HOLD:=hid (show Calls Tryz.prog 133 #[.agg #[.pointer (some ⟨R,0,none⟩),.pointer (some ⟨T,0,none⟩)]] Y0 (ReadRet B R (fun n=>.int .i64 n) (ldOld (neOf c.recs) c.horizon (hiOf c.recs) l4) Y0) from by
    exact old_any (c:={ c with i4:=its }) SY.out HL.out)
   have HY0:=hid hY0
   clear hY0 hb0 y7 S7 F7 HB7
   cases ho:ldOld (neOf c.recs) c.horizon (hiOf c.recs) l4 with
   | none =>
    obtain rfl:q=none:=HNONE.out (by rw [HNX.out];unfold ldSp;simp only;rw [HK.out];simp only;rw [HK2.out];simp only;rw [HCV.out,if_pos HC.out,ho])
    rw [ho] at HOLD
    refine wp_region_chain (fun i=>[Value.agg #[.pointer (some ⟨R,0,none⟩),.pointer (some ⟨T,0,none⟩)],.pointer (some ⟨tt,0,none⟩),.agg #[.float .f64 kb,.float .f64 zb,.bool false,.bool false],.agg #[.pointer (some ⟨R,0,none⟩),.pointer (some ⟨T,0,none⟩)]].getD i undef) (fun j x=>j=0∧x=Y0) (fun c x=>c=wrongP∧Y0.grownBy x (some R)) [4,5,7] rfl (by kernel_rfl) (by kernel_rfl) (by decide) (by decide) ⟨rfl,HY0.out.symm⟩ ?_ ?_ ?_
    ·simp only [StepsC,List.nil_append,List.cons_append]
     refine ⟨?_,?_,?_,?_,?o4,?o5,?o6,?o7,trivial⟩
     case o5 =>
      intro jj x g1 g2 hx
      obtain ⟨rfl,rfl⟩:=hx
      exact absurd g1 (by decide +kernel)
     case o6 =>
      intro jj x g1 g2 hx
      obtain ⟨rfl,rfl⟩:=hx
      exact absurd g1 (by decide +kernel)
     case o7 =>
      intro jj x g1 g2 hx
      obtain ⟨rfl,rfl⟩:=hx
      exact absurd g1 (by decide +kernel)
     case o4 =>
      intro jj x g1 g2 hx
      obtain ⟨rfl,rfl⟩:=hx
      generalize hR:(fun v w'=>(_→v=_)∧_)=RR
      have HR:=hid hR
      clear hR g1 g2
      simp only [putsFrom,Act.put,qA,qB,qC,Nat.zero_add,Nat.reduceAdd,List.getD_cons_zero,List.getD_cons_succ]
      go_wp2_with fail
      refine HOLD.out.mono ?_
      rintro e w9 ⟨rfl,hg9⟩
      go_wp2_with fail
      exact ⟨rfl,hg9⟩
     all_goals
      intro jj x g1 g2 hx
      obtain ⟨rfl,rfl⟩:=hx
      obtain ⟨x0,x1,-,-⟩:=row2 HXY.out.2
      obtain ⟨y0,y1,y2,y3,-⟩:=row4 HYY.out.2
      generalize hR:(fun v w'=>(_→v=_)∧_)=RR
      have HR:=hid hR
      clear hR g1 g2
      try simp only [putsFrom,Act.put,qA,qB,qC,Nat.zero_add,Nat.reduceAdd,List.getD_cons_zero,List.getD_cons_succ]
      go_wp2_with fail
      have hR:=HR.out
      subst hR
      exact ⟨rfl,fun _=>rfl,rfl,rfl⟩
    ·intro x hx
     exact absurd hx.1 (by decide)
    ·intro c a x hd hx
     obtain ⟨rfl,hg⟩:=hx
     exact ⟨hd,rfl,_,FY.out.trans (FrR.grown ow' hg)⟩
   | some p =>
   obtain ⟨n2,l3⟩:=p
   have HO:=hid ho
   rw [ho] at HOLD
   obtain ⟨cd,hcd⟩:∃ v,(Q.putI its (mostI c.old) (canonS kb zb false false) n2).1=v:=⟨_,rfl⟩
   obtain ⟨its2,hits2⟩:∃ v,(Q.putI its (mostI c.old) (canonS kb zb false false) n2).2=v:=⟨_,rfl⟩
   obtain ⟨okb,hok⟩:∃ b,(cd == 0)=b:=⟨_,rfl⟩
   have HPUT:=hid fun (x:World) (hx:LSt B R T { c with i4:=its } ow' l3 x)=>(show Calls Tryz.prog 112 #[.pointer (some ⟨tt,0,none⟩),.agg #[.float .f64 kb,.float .f64 zb,.bool false,.bool false],.int .i64 n2] x (fun e w'=>e=.returned (.int .i64 cd)∧∃ ow'',LSt B R T { c with i4:=its2 } ow'' l3 w'∧Fr ow' ow'' x w') from by
    have:=put4 hx.c kb zb false false n2 hkl hzl
    simp only at this
    rw [hcd,hits2] at this
    rw [HTT.out]
    refine this.mono ?_
    rintro e w' ⟨rfl,ow'',k1,k2⟩
    exact ⟨rfl,ow'',hx.step k1 k2,k2⟩)
   have HFAIL:=hid fun (h:okb=false)=>(show q=none from HNONE.out (by
    rw [HNX.out];unfold ldSp;simp only;rw [HK.out];simp only;rw [HK2.out];simp only;rw [HCV.out,if_pos HC.out,HO.out];simp only
    rw [hcd]
    exact if_neg (by intro e;rw [e] at hok;rw [←hok] at h;cases h)))
   have HYES:=hid fun (h:okb=true)=>(show ldSpsN (mostI c.old) (neOf c.recs) c.horizon (hiOf c.recs) c.i4 r (i+1)=some ⟨canonS kb zb false false,its2,l3⟩ from by
    rw [HNX.out];unfold ldSp;simp only;rw [HK.out];simp only;rw [HK2.out];simp only;rw [HCV.out,if_pos HC.out,HO.out];simp only
    rw [hcd,hits2]
    exact if_pos (by rw [h] at hok;simpa using hok))
   have HOK:=hid hok
   clear hcd hits2 hok ho
   refine wp_region_chain (fun i=>[Value.agg #[.pointer (some ⟨R,0,none⟩),.pointer (some ⟨T,0,none⟩)],.pointer (some ⟨tt,0,none⟩),.agg #[.float .f64 kb,.float .f64 zb,.bool false,.bool false],.agg #[.pointer (some ⟨R,0,none⟩),.pointer (some ⟨T,0,none⟩)],.int .i64 n2,.int .i64 cd,.bool okb,.tuple #[]].getD i undef) (KR B R T { c with i4:=its } { c with i4:=its2 } ow' Y0 l3 okb) (fun c x=>c=wrongP∧okb=false∧∃ ow'',FrR R ow' ow'' Y0 x) [4,5,7] rfl (by kernel_rfl) (by kernel_rfl) (by decide) (by decide) HY0.out.symm ?_ ?_ ?_
   ·simp only [StepsC,List.nil_append,List.cons_append]
    refine ⟨?l0,?_,?l2,?l3,?o4,?o5,?_,?o7,trivial⟩
    case l0 =>
     intro jj x g1 g2 hx
     have hq:=(KR.box (Nat.le_trans g2 (by decide +kernel)) hx X HXY.out.1 HX0.out hXR).trans HXY.out.2
     obtain ⟨x0,x1,-,-⟩:=row2 hq
     clear hq
     generalize hR:(fun v w'=>(_→v=_)∧_)=RR
     have HR:=hid hR
     have HXX:=hid hx
     clear hR g1 g2 hx
     try simp only [putsFrom,Act.put,qA,qB,qC,Nat.zero_add,Nat.reduceAdd,List.getD_cons_zero,List.getD_cons_succ]
     go_wp2_with fail
     have hR:=HR.out
     subst hR
     exact ⟨rfl,fun _=>rfl,HXX.out⟩
    case l2 =>
     intro jj x g1 g2 hx
     have hq:=(KR.box (Nat.le_trans g2 (by decide +kernel)) hx Y HYY.out.1 HY1.out hYR).trans HYY.out.2
     obtain ⟨y0,y1,y2,y3,-⟩:=row4 hq
     clear hq
     generalize hR:(fun v w'=>(_→v=_)∧_)=RR
     have HR:=hid hR
     have HXX:=hid hx
     clear hR g1 g2 hx
     try simp only [putsFrom,Act.put,qA,qB,qC,Nat.zero_add,Nat.reduceAdd,List.getD_cons_zero,List.getD_cons_succ]
     go_wp2_with fail
     have hR:=HR.out
     subst hR
     exact ⟨rfl,fun _=>rfl,HXX.out⟩
    case l3 =>
     intro jj x g1 g2 hx
     have hq:=(KR.box (Nat.le_trans g2 (by decide +kernel)) hx X HXY.out.1 HX0.out hXR).trans HXY.out.2
     obtain ⟨x0,x1,-,-⟩:=row2 hq
     clear hq
     generalize hR:(fun v w'=>(_→v=_)∧_)=RR
     have HR:=hid hR
     have HXX:=hid hx
     clear hR g1 g2 hx
     try simp only [putsFrom,Act.put,qA,qB,qC,Nat.zero_add,Nat.reduceAdd,List.getD_cons_zero,List.getD_cons_succ]
     go_wp2_with fail
     have hR:=HR.out
     subst hR
     exact ⟨rfl,fun _=>rfl,HXX.out⟩
    case o4 =>
     intro jj x g1 g2 hx
     obtain rfl:jj=0:=Nat.le_zero.1 (Nat.le_trans g2 (by decide +kernel))
     obtain rfl:x=Y0:=hx
     generalize hR:(fun v w'=>(_→v=_)∧_)=RR
     have HR:=hid hR
     clear hR g1 g2
     simp only [putsFrom,Act.put,qA,qB,qC,Nat.zero_add,Nat.reduceAdd,List.getD_cons_zero,List.getD_cons_succ]
     go_wp2_with fail
     refine HOLD.out.mono ?_
     rintro e w9 ⟨rfl,hr9,hg9⟩
     have HE:Hid (KR B R T { c with i4:=its } { c with i4:=its2 } ow' x l3 okb 1 w9):=hid ⟨SY.out.read hg9 hr9,FrR.grown ow' hg9⟩
     clear hr9 hg9
     go_wp2_with fail
     have hR:=HR.out
     subst hR
     exact ⟨rfl,fun _=>rfl,HE.out⟩
    case o5 =>
     intro jj x g1 g2 hx
     obtain rfl:jj=1:=Nat.le_antisymm (Nat.le_trans g2 (by decide +kernel)) (Nat.le_trans (by decide +kernel) g1)
     obtain ⟨hS,hF⟩:=hx
     have HC2:=hid (HPUT.out x hS)
     have HF:=hid hF
     generalize hR:(fun v w'=>(_→v=_)∧_)=RR
     have HR:=hid hR
     clear hR g1 g2 hS hF
     simp only [putsFrom,Act.put,qA,qB,qC,Nat.zero_add,Nat.reduceAdd,List.getD_cons_zero,List.getD_cons_succ]
     go_wp2_with fail
     refine HC2.out.mono ?_
     rintro e w9 ⟨rfl,ow'',k1,k2⟩
     have HE:Hid (KR B R T { c with i4:=its } { c with i4:=its2 } ow' Y0 l3 okb 2 w9):=hid ⟨ow'',k1,HF.out.trans (FrR.of k2)⟩
     clear k1 k2
     go_wp2_with fail
     have hR:=HR.out
     subst hR
     exact ⟨rfl,fun _=>rfl,HE.out⟩
    case o7 =>
     intro jj x g1 g2 hx
     obtain rfl:jj=2:=Nat.le_antisymm (Nat.le_trans g2 (by decide +kernel)) (Nat.le_trans (by decide +kernel) g1)
     obtain ⟨ow'',k1,k2⟩:=hx
     have K1:=hid k1;have K2:=hid k2
     generalize hR:(fun v w'=>(_→v=_)∧_)=RR
     have HR:=hid hR
     clear hR g1 g2 k1 k2
     simp only [putsFrom,Act.put,qA,qB,qC,Nat.zero_add,Nat.reduceAdd,List.getD_cons_zero,List.getD_cons_succ]
     cases hob:okb
     ·rw [hob] at HR
      go_wp2_with fail
      refine (need_no R T x).mono ?_
      rintro e w9 ⟨rfl,hb9⟩
      have HE:=hid (K2.out.trans (FrR.of_below ow'' hb9))
      clear hb9
      go_wp2_with fail
      exact ⟨rfl,ow'',HE.out⟩
     ·go_wp2_with fail
      refine (need_yes R T x).mono ?_
      rintro e w9 ⟨rfl,hb9⟩
      have HE:Hid (KR B R T { c with i4:=its } { c with i4:=its2 } ow' Y0 l3 okb 3 w9):=hid ⟨hob,ow'',K1.out.below hb9,K2.out.trans (FrR.of_below ow'' hb9)⟩
      clear hb9
      go_wp2_with fail
      have hR:=HR.out
      subst hR
      exact ⟨rfl,fun _=>rfl,HE.out⟩
    all_goals
     intro jj x g1 g2 hx
     have hok:=HOK.out
     generalize hR:(fun v w'=>(_→v=_)∧_)=RR
     have HR:=hid hR
     have HXX:=hid hx
     clear hR g1 g2 hx
     try simp only [putsFrom,Act.put,qA,qB,qC,Nat.zero_add,Nat.reduceAdd,List.getD_cons_zero,List.getD_cons_succ]
     go_wp2_with fail
     have hR:=HR.out
     subst hR
     exact ⟨rfl,fun _=>rfl,HXX.out⟩
   ·intro x hx
    obtain ⟨hok,ow'',k1,k2⟩:=hx
    have HM3:=hid (HYES.out hok)
    have K1:=hid k1
    have K2:=hid (FY.out.trans k2)
    have K3:=hid (HBY.out.step k2 hXR hZR)
    clear k1 k2
    simp only [putsFrom,Act.put,qA,qB,qC,Nat.zero_add,Nat.reduceAdd,List.getD_cons_zero,List.getD_cons_succ]
    go_wp2_with fail
    go_roundw
    case rel=>exact ⟨i+1,kb,zb,its2,l3,ow'',by go_num,by omega,hkl,hzl,HM3,K1,K2,K3⟩
    case measure=>simp [intOf];omega
   ·intro c a x hd hx
    obtain ⟨rfl,hob,ow'',hf⟩:=hx
    obtain rfl:=HFAIL.out hob
    exact ⟨hd,rfl,_,FY.out.trans hf⟩
  ·obtain rfl:i=n:=by omega
   have hge:¬(i:Int)<(i:Int):=by omega
   have hq:q=some (its,l):=by rw [HQ2.out,HM.out];rfl
   subst hq
   have HF:=hid (show SpsRet B R T c ow (some (its,l)) w (.returned (.tuple #[])) wr from ⟨rfl,ow',S.out,F.out⟩)
   go_wp2_with fail
   go_end0
   exact HF.out
end Go.Proofs.YtfbachckdadhoaaGreat.C
namespace Go.Proofs.YtfbachckdadhoaaGreat.C
set_option linter.unusedVariables false
open Go.RowKit Fl
open Go.Proofs.YtfbachckdadhoaaGreat.P (RAt ReadRet wrongP getFlag getBytes dec ofD SameD Above BelowB)
set_option linter.unusedSimpArgs false

def DoneRet (B R T:Nat) (c:CL) (ow:Nat→Nat) (q:Option (RecV×List Nat)) (w:World) (e:Ending) (w':World):Prop:=match q with
 | none=>e=.panicked wrongP∧∃ ow',FrR R ow ow' w w'
 | some (x,r)=>e=.returned (.tuple #[])∧∃ (c':CL) (ow':Nat→Nat),LSt B R T c' ow' r w'∧FrR R ow ow' w w'∧CL.n c' = { CL.n c with recs:=(CL.n c).recs++[x] }
theorem sameD_n {y x:SubV} (h:SameD y x):SubV.n y=SubV.n x:=by
 obtain ⟨h1,h2,h3,h4,h5,h6⟩:=h
 unfold SubV.n
 rw [h1,h2,h3,h4,h5,h6]
theorem above_sub {y:SubV} {w:World} {n:Nat} (h:y.At w) (ha:Above y n):SubL (fun k=>n≤k) y w :=
 ⟨h,fun _ b o e=>ha ⟨b,o,none⟩ (.inl e),fun _ b o e=>ha ⟨b,o,none⟩ (.inr (.inl e)),fun _ b o e=>ha ⟨b,o,none⟩ (.inr (.inr e))⟩
set_option maxHeartbeats 4000000 in
set_option maxRecDepth 100000 in
theorem done_any {B R T:Nat} {c:CL} {ow:Nat→Nat} {bs:List Nat} {w:World} (h:LSt B R T c ow bs w) (n:Int) (hn:0<n∧n≤c.count) (hl:(c.recs.length:Int)≤c.keep) :
  Calls Tryz.prog 75 #[.agg #[.pointer (some ⟨R,0,none⟩),.pointer (some ⟨T,0,none⟩)],.int .i64 n] w (DoneRet B R T c ow (ldDone n bs) w):=by
 obtain ⟨q,hq⟩:∃ q,ldDone n bs=q:=⟨_,rfl⟩
 rw [hq]
 have HQ:=hid hq
 have HS:=hid h
 have HN:=hid hn
 have HL:=hid hl
 clear hq h hn hl
 go_enter Tryz.func75,Tryz.ntmps75
 go_upto_region 1 with fail
 generalize hW1:World.alloc w _=w1
 have hb1:Below w.heap.size w w1:=by rw [←hW1];exact below_auto
 have q1:w1.heap[w.heap.size]? = some (.cells #[.pointer (some ⟨R,0,none⟩),.pointer (some ⟨T,0,none⟩)] 143 (0,0)):=by rw [←hW1];exact heap_alloc_new w _
 have hRw:=HS.out.r.lt
 obtain ⟨X,hX⟩:∃ X,X=w.heap.size:=⟨_,rfl⟩
 have HG1:=hid (gb R hb1)
 have S1:=HS.out.below hb1
 have hXR:X≠R:=by omega
 have hXo:ow X=0:=Classical.byContradiction fun h0=>by have:=(HS.out.c.low X h0).2;omega
 rw [←hX] at q1 ⊢
 have HX:=hid hX
 clear hW1 hb1 hX hRw
 obtain ⟨x0,x1,-,-⟩:=row2 q1
 have hXl:=(Array.getElem?_eq_some_iff.1 q1).1
 have HFN:Hid (∀ W,w.grownBy W (some R)→DoneRet B R T c ow none w (.panicked wrongP) W):=hid fun W hW=>⟨rfl,ow,FrR.grown ow hW⟩
 go_wp2_with fail
 refine (P.flag_any B R bs w1 S1.r).mono ?_
 intro e w2 h2
 cases h0:getFlag bs with
 | none =>
  obtain rfl:none=q:=by rw [←HQ.out];unfold ldDone;rw [h0]
  rw [h0] at h2
  obtain ⟨rfl,hg⟩:=h2
  have HF:=hid (HFN.out _ (HG1.out.trans hg))
  go_wp2_with fail
  exact ⟨rfl,HF.out⟩
 | some p =>
 obtain ⟨out,r⟩:=p
 have H0:=hid h0
 rw [h0] at h2
 obtain ⟨rfl,hr2,hg2⟩:=h2
 have S2:=hid (S1.read hg2 hr2)
 have HG2:=hid (HG1.out.trans hg2)
 have q2:=(hg2.block X hXl (fun e=>hXR (Option.some.inj e))).trans q1
 clear x0 x1 hr2 hg2 h0 q1 S1 hXl HG1
 obtain ⟨x0,x1,-,-⟩:=row2 q2
 have hXl:=(Array.getElem?_eq_some_iff.1 q2).1
 go_wp2_with fail
 refine (P.rbytes_any B R r w2 S2.out.r).mono ?_
 intro e w3 h3
 cases h0:getBytes 4096 r with
 | none =>
  obtain rfl:none=q:=by rw [←HQ.out];unfold ldDone;rw [H0.out];simp only;rw [h0]
  rw [h0] at h3
  obtain ⟨rfl,hg⟩:=h3
  have HF:=hid (HFN.out _ (HG2.out.trans hg))
  go_wp2_with fail
  exact ⟨rfl,HF.out⟩
 | some p =>
 obtain ⟨l,r2⟩:=p
 have H1:=hid h0
 rw [h0] at h3
 obtain ⟨a3,c3,rfl,hbt,hlc,hr3,hg3⟩:=h3
 have S3:=hid (S2.out.read hg3 hr3)
 have HG3:=hid (HG2.out.trans hg3)
 have q3:=(hg3.block X hXl (fun e=>hXR (Option.some.inj e))).trans q2
 have HDC:=hid (P.decode_any2 a3 c3 l w3 ⟨hbt.row,hbt.lt,hlc⟩)
 have hZ3:w2.heap.size≤w3.heap.size:=hg3.size
 clear x0 x1 hr3 hg3 h0 q2 S2 hXl HG2 hbt hlc
 have hXl:=(Array.getElem?_eq_some_iff.1 q3).1
 generalize hln:l.length=ln at *
 go_wp2_with fail
 refine HDC.out.mono ?_
 intro e w4 h4
 cases h0:dec l with
 | none =>
  obtain rfl:none=q:=by rw [←HQ.out];unfold ldDone;rw [H0.out];simp only;rw [H1.out];simp only;rw [h0]
  rw [h0] at h4
  obtain ⟨rfl,hb4⟩:=h4
  have q4:=(hb4.block X hXl).trans q3
  have HG4:=hid (P.grown_below HG3.out hb4 HG3.out.size)
  have hz4:=hb4.size
  clear h0 q3 hXl S3 HG3 HDC hb4
  obtain ⟨x0,x1,-,-⟩:=row2 q4
  have hXl:=(Array.getElem?_eq_some_iff.1 q4).1
  go_wp2_with fail
  refine (need_no R T _).mono ?_
  rintro e w5 ⟨rfl,hb5⟩
  have HF:=hid (HFN.out w5 (P.grown_below HG4.out (C:=w4.heap.size) ((Below.alloc1 (Nat.le_refl _) (Below.refl _ w4) _).trans (hb5.mono (by simp))) HG4.out.size))
  go_wp2_with fail
  exact ⟨rfl,HF.out⟩
 | some t =>
 have H2:=hid h0
 rw [h0] at h4
 obtain ⟨y,hsd,hat,hab,rfl,hb4⟩:=h4
 have HCK:=hid (P.dec_some h0).2
 have HQ3:=hid (show q=if y.s2<n then some (⟨n,ofD t,out⟩,r2) else none from by rw [←HQ.out,hsd.s2];unfold ldDone;rw [H0.out];simp only;rw [H1.out];simp only;rw [h0])
 have q4:=(hb4.block X hXl).trans q3
 have hz4:=hb4.size
 have HSD:=hid hsd
 have hys:=hid (above_sub hat hab)
 clear h0 hsd hab HDC H0 H1 H2 HQ
 go_upto_region 3 with fail
 generalize hW5:World.alloc w4 _=w5
 have hb5:Below w4.heap.size w4 w5:=by rw [←hW5];exact below_auto
 have qS:w5.heap[w4.heap.size]? = some (.cells #[.int .i64 y.s0,.int .i64 y.s1,.int .i64 y.s2,.slice y.ra y.rs.length y.rc,.slice y.sa y.ss.length y.sc,.slice y.wa y.ws.length y.wc] 32 (0,0)):=by rw [←hW5];exact heap_alloc_new w4 _
 obtain ⟨S,hS⟩:∃ S,S=w4.heap.size:=⟨_,rfl⟩
 rw [←hS] at qS ⊢
 have q5:=(hb5.block X (by omega)).trans q4
 have hb35:=hb4.trans (hb5.mono hz4)
 have hX3l:X<w3.heap.size:=hXl
 have HX3:=hid q3
 clear hW5 hS q4 q3 hXl
 obtain ⟨x0,x1,-,-⟩:=row2 q5
 obtain ⟨s0,s1,s2,s3,s4,s5⟩:=row6 qS
 have hXl:=(Array.getElem?_eq_some_iff.1 q5).1
 have hSl:=(Array.getElem?_eq_some_iff.1 qS).1
 by_cases hs:y.s2<n
 rotate_left
 ·have e:=HQ3.out
  rw [if_neg hs] at e
  subst e
  go_wp2_with fail
  refine (need_no R T w5).mono ?_
  rintro e w6 ⟨rfl,hb6⟩
  have HF:=hid (HFN.out w6 (P.grown_below HG3.out (hb35.trans (hb6.mono hb35.size)) HG3.out.size))
  go_wp2_with fail
  exact ⟨rfl,HF.out⟩
 have e:=HQ3.out
 rw [if_pos hs] at e
 subst e
 go_wp2_with fail
 refine (need_yes R T w5).mono ?_
 rintro e w6 ⟨rfl,hb6⟩
 have q6:=(hb6.block X hXl).trans q5
 have qS6:=(hb6.block S hSl).trans qS
 have hb36:=hb35.trans (hb6.mono hb35.size)
 have hb46:=hb5.trans (hb6.mono hb5.size)
 clear x0 x1 s0 s1 s2 s3 s4 s5 hXl hSl q5 qS hb35 hs hb5
 go_upto_region 4 with fail
 obtain ⟨Y0,hY0⟩:∃ Y:World,Y = { w6 with drawn:=w6.drawn+1 }:=⟨_,rfl⟩
 have hb0:Below w6.heap.size w6 Y0:=by rw [hY0];exact Below.drew (Below.refl _ _)
 have hb3Y:=hb36.trans (hb0.mono hb36.size)
 have hb4Y:=hb46.trans (hb0.mono hb46.size)
 have hyY:SubL (fun k=>w3.heap.size≤k) y Y0:=hys.out.kept (fun _ _ h=>h) fun k hk _=>hb4Y.block k hk
 obtain ⟨a',c2,X3,hrun,hT3,ow2,hC2,hF2⟩:=push_runN ⟨S3.out.c,HN.out,HL.out⟩ hb3Y hyY ⟨rfl,rfl,rfl,rfl,rfl,rfl⟩ (chk_zero (HSD.out.check.trans HCK.out)).1 out
 have hXT:X≠T:=fun e=>by have:=S3.out.c.hT;rw [←e,hXo] at this;cases this
 have hT:=S3.out.c.lt.2
 have hTY:=(hb3Y.block T hT).trans S3.out.c.box
 obtain ⟨_,gT⟩:=K.set1 (i:=4) hT3 (.slice a' (c.recs.length+1) c2)
 have hXl3:X<X3.heap.size:=Nat.lt_of_lt_of_le hX3l (by have h1:=hF2.size;have h2:(X3.setCell ⟨T,4,none⟩ (.slice a' (c.recs.length+1) c2)).heap.size=X3.heap.size:=(by simp [go_sem]);omega)
 have hX3:X3.heap[X]? = some (.cells #[.pointer (some ⟨R,0,none⟩),.pointer (some ⟨T,0,none⟩)] 143 (0,0)):=(gT.block X hXl3 (fun e=>hXT (Option.some.inj e))).symm.trans ((hF2.block X hX3l hXo).trans HX3.out)
 have hX0:=(hb0.block X (Array.getElem?_eq_some_iff.1 q6).1).trans q6
 have hS0:=(hb0.block S (Array.getElem?_eq_some_iff.1 qS6).1).trans qS6
 have hb1:Below Y0.heap.size Y0 (Y0.alloc (.cells #[.int .i64 n,.int .i64 y.s0,.int .i64 y.s1,.int .i64 y.s2,.slice y.ra y.rs.length y.rc,.slice y.sa y.ss.length y.sc,.slice y.wa y.ws.length y.wc,.bool out] 100)):=by exact below_auto
 have hX1:=(hb1.block X (Array.getElem?_eq_some_iff.1 hX0).1).trans hX0
 have hT1:=(hb1.block T (Array.getElem?_eq_some_iff.1 hTY).1).trans hTY
 have HXC:=hid fun (j:Nat) (hj:j≤2)=>(show ([Y0,Y0.alloc (.cells #[.int .i64 n,.int .i64 y.s0,.int .i64 y.s1,.int .i64 y.s2,.slice y.ra y.rs.length y.rc,.slice y.sa y.ss.length y.sc,.slice y.wa y.ws.length y.wc,.bool out] 100),X3].getD j Y0).heap[X]? = some (.cells #[.pointer (some ⟨R,0,none⟩),.pointer (some ⟨T,0,none⟩)] 143 (0,0)) from by
  have:j=0∨j=1∨j=2:=by omega
  rcases this with rfl|rfl|rfl
  ·exact hX0
  ·exact hX1
  ·exact hX3)
 have HTC:=hid fun (j:Nat) (hj:j≤1)=>(show ([Y0,Y0.alloc (.cells #[.int .i64 n,.int .i64 y.s0,.int .i64 y.s1,.int .i64 y.s2,.slice y.ra y.rs.length y.rc,.slice y.sa y.ss.length y.sc,.slice y.wa y.ws.length y.wc,.bool out] 100),X3].getD j Y0).heap[T]? = some (.cells c.box 78 (0,0)) from by
  have:j=0∨j=1:=by omega
  rcases this with rfl|rfl
  ·exact hTY
  ·exact hT1)
 have HS0:=hid hS0;have HRUN:=hid hrun;have HT3:=hid hT3
 have HFIN:=hid (show LSt B R T { c with recs:=c.recs++[⟨n,y,out⟩],ra:=a',rc:=c2 } ow2 r2 (X3.setCell ⟨T,4,none⟩ (.slice a' (c.recs.length+1) c2))∧FrR R ow ow2 w (X3.setCell ⟨T,4,none⟩ (.slice a' (c.recs.length+1) c2)) from ⟨S3.out.step hC2 hF2,(FrR.grown ow HG3.out).trans (FrR.of hF2)⟩)
 obtain ⟨Y4,hY4⟩:∃ Y:World,Y=X3.setCell ⟨T,4,none⟩ (.slice a' (c.recs.length+1) c2):=⟨_,rfl⟩
 have HY4:=hid hY4;have HY0:=hid hY0
 rw [←hY4] at HFIN
 have HFD:=hid (show DoneRet B R T c ow (some (⟨n,ofD t,out⟩,r2)) w (.returned (.tuple #[])) Y4 from ⟨rfl,_,ow2,HFIN.out.1,HFIN.out.2,by
  unfold CL.n
  simp only [List.map_append,List.map_cons,List.map_nil]
  rw [show RecV.n ⟨n,y,out⟩=⟨n,ofD t,out⟩ from by unfold RecV.n;simp only;rw [sameD_n HSD.out];rfl]⟩)
 clear hb0 hb3Y hb4Y hyY hrun hT3 hC2 hF2 hXT hT hTY gT hXl3 hX3 hX0 hS0 hb1 hX1 hT1 hY4 hY0 HFIN hb36 hb46 q6 qS6 hb6 hys HSD HCK S3 HG3 HX3 hXo hX3l
 refine wp_region_chain (fun i=>[Value.pointer (some ⟨X,1,none⟩),.pointer (some ⟨T,0,none⟩),.pointer (some ⟨X,1,none⟩),.pointer (some ⟨T,0,none⟩),.pointer (some ⟨T,0,none⟩),.pointer (some ⟨T,4,none⟩),.slice c.ra c.recs.length c.rc,.int .i64 n,.agg #[.int .i64 y.s0,.int .i64 y.s1,.int .i64 y.s2,.slice y.ra y.rs.length y.rc,.slice y.sa y.ss.length y.sc,.slice y.wa y.ws.length y.wc],.agg #[.int .i64 n,.int .i64 y.s0,.int .i64 y.s1,.int .i64 y.s2,.slice y.ra y.rs.length y.rc,.slice y.sa y.ss.length y.sc,.slice y.wa y.ws.length y.wc],.bool out,.agg #[.int .i64 n,.int .i64 y.s0,.int .i64 y.s1,.int .i64 y.s2,.slice y.ra y.rs.length y.rc,.slice y.sa y.ss.length y.sc,.slice y.wa y.ws.length y.wc,.bool out],.slice (some ⟨Y0.heap.size,0,none⟩) 1 1,.slice a' (c.recs.length+1) c2,.pointer (some ⟨T,0,none⟩),.pointer (some ⟨T,4,none⟩)].getD i undef) (fun j x=>x=[Y0,Y0.alloc (.cells #[.int .i64 n,.int .i64 y.s0,.int .i64 y.s1,.int .i64 y.s2,.slice y.ra y.rs.length y.rc,.slice y.sa y.ss.length y.sc,.slice y.wa y.ws.length y.wc,.bool out] 100),X3,Y4].getD j Y0) (fun c x=>False) [12,13,16] rfl (by kernel_rfl) (by kernel_rfl) (by decide) (by decide) HY0.out.symm ?_ ?_ ?_
 ·simp only [StepsC,List.nil_append,List.cons_append]
  refine ⟨?_,?l1,?_,?l3,?_,?_,?l6,?_,?l8,?_,?_,?_,?bs,?ap,?_,?_,?st,trivial⟩
  case l1 =>
   intro jj x g1 g2 hx
   have hj:jj≤2:=Nat.le_trans g2 (by decide +kernel)
   have hq:x.heap[X]? = some (.cells #[.pointer (some ⟨R,0,none⟩),.pointer (some ⟨T,0,none⟩)] 143 (0,0)):=by
    have hj':jj=0∨jj=1∨jj=2:=by omega
    rw [hx]
    rcases hj' with rfl|rfl|rfl
    ·exact HXC.out 0 (by decide)
    ·exact HXC.out 1 (by decide)
    ·exact HXC.out 2 (by decide)
   obtain ⟨x0,x1,-,-⟩:=row2 hq
   clear hq hj
   generalize hR:(fun v w'=>(_→v=_)∧_)=RR
   have HR:=hid hR
   have HXX:=hid hx
   clear hR g1 g2 hx
   try simp only [putsFrom,Act.put,qA,qB,qC,Nat.zero_add,Nat.reduceAdd,List.getD_cons_zero,List.getD_cons_succ]
   go_wp2_with fail
   have hR:=HR.out
   subst hR
   exact ⟨rfl,fun _=>rfl,HXX.out⟩
  case l3 =>
   intro jj x g1 g2 hx
   have hj:jj≤2:=Nat.le_trans g2 (by decide +kernel)
   have hq:x.heap[X]? = some (.cells #[.pointer (some ⟨R,0,none⟩),.pointer (some ⟨T,0,none⟩)] 143 (0,0)):=by
    have hj':jj=0∨jj=1∨jj=2:=by omega
    rw [hx]
    rcases hj' with rfl|rfl|rfl
    ·exact HXC.out 0 (by decide)
    ·exact HXC.out 1 (by decide)
    ·exact HXC.out 2 (by decide)
   obtain ⟨x0,x1,-,-⟩:=row2 hq
   clear hq hj
   generalize hR:(fun v w'=>(_→v=_)∧_)=RR
   have HR:=hid hR
   have HXX:=hid hx
   clear hR g1 g2 hx
   try simp only [putsFrom,Act.put,qA,qB,qC,Nat.zero_add,Nat.reduceAdd,List.getD_cons_zero,List.getD_cons_succ]
   go_wp2_with fail
   have hR:=HR.out
   subst hR
   exact ⟨rfl,fun _=>rfl,HXX.out⟩
  case l6 =>
   intro jj x g1 g2 hx
   have hj:jj≤1:=Nat.le_trans g2 (by decide +kernel)
   have hq:x.heap[T]? = some (.cells c.box 78 (0,0)):=by
    have hj':jj=0∨jj=1:=by omega
    rw [hx]
    rcases hj' with rfl|rfl
    ·exact HTC.out 0 (by decide)
    ·exact HTC.out 1 (by decide)
   obtain ⟨k0,k1,k2,k3,k4,-⟩:=row9 hq
   clear hq hj
   generalize hR:(fun v w'=>(_→v=_)∧_)=RR
   have HR:=hid hR
   have HXX:=hid hx
   clear hR g1 g2 hx
   try simp only [putsFrom,Act.put,qA,qB,qC,Nat.zero_add,Nat.reduceAdd,List.getD_cons_zero,List.getD_cons_succ]
   go_wp2_with fail
   have hR:=HR.out
   subst hR
   exact ⟨rfl,fun _=>rfl,HXX.out⟩
  case l8 =>
   intro jj x g1 g2 hx
   obtain rfl:jj=0:=Nat.le_zero.1 (Nat.le_trans g2 (by decide +kernel))
   obtain rfl:x=Y0:=hx
   obtain ⟨s0,s1,s2,s3,s4,s5⟩:=row6 HS0.out
   generalize hR:(fun v w'=>(_→v=_)∧_)=RR
   have HR:=hid hR
   clear hR g1 g2
   try simp only [putsFrom,Act.put,qA,qB,qC,Nat.zero_add,Nat.reduceAdd,List.getD_cons_zero,List.getD_cons_succ]
   go_wp2_with fail
   have hR:=HR.out
   subst hR
   exact ⟨rfl,fun _=>rfl,rfl⟩
  case bs =>
   intro jj x g1 g2 hx
   obtain rfl:jj=0:=Nat.le_zero.1 (Nat.le_trans g2 (by decide +kernel))
   obtain rfl:x=Y0:=hx
   generalize hR:(fun v w'=>(_→v=_)∧_)=RR
   have HR:=hid hR
   clear hR g1 g2
   try simp only [putsFrom,Act.put,qA,qB,qC,Nat.zero_add,Nat.reduceAdd,List.getD_cons_zero,List.getD_cons_succ]
   go_wp2_with fail
   have hR:=HR.out
   subst hR
   exact ⟨rfl,fun _=>rfl,rfl⟩
  case ap =>
   intro jj x g1 g2 hx
   obtain rfl:jj=1:=Nat.le_antisymm (Nat.le_trans g2 (by decide +kernel)) (Nat.le_trans (by decide +kernel) g1)
   obtain rfl:x=Y0.alloc (.cells #[.int .i64 n,.int .i64 y.s0,.int .i64 y.s1,.int .i64 y.s2,.slice y.ra y.rs.length y.rc,.slice y.sa y.ss.length y.sc,.slice y.wa y.ws.length y.wc,.bool out] 100):=hx
   generalize hR:(fun v w'=>(_→v=_)∧_)=RR
   have HR:=hid hR
   clear hR g1 g2
   try simp only [putsFrom,Act.put,qA,qB,qC,Nat.zero_add,Nat.reduceAdd,List.getD_cons_zero,List.getD_cons_succ]
   go_wp2_with (at_builtin;refine Lib.wpList_append_run _ rfl _ _ _ _ rfl _ _ rfl rfl _ _ (HRUN.out _) ?_)
   have hR:=HR.out
   subst hR
   exact ⟨rfl,fun _=>rfl,rfl⟩
  case st =>
   intro jj x g1 g2 hx
   obtain rfl:jj=2:=Nat.le_antisymm (Nat.le_trans g2 (by decide +kernel)) (Nat.le_trans (by decide +kernel) g1)
   obtain rfl:x=X3:=hx
   have hT3:=HT3.out
   obtain ⟨k0,k1,k2,k3,k4,-⟩:=row9 hT3
   have f4:x.frozen? ⟨T,4,none⟩=false:=by simp [World.frozen?,hT3]
   have hTX:=(Array.getElem?_eq_some_iff.1 hT3).1
   clear hT3
   generalize hR:(fun v w'=>(_→v=_)∧_)=RR
   have HR:=hid hR
   clear hR g1 g2
   try simp only [putsFrom,Act.put,qA,qB,qC,Nat.zero_add,Nat.reduceAdd,List.getD_cons_zero,List.getD_cons_succ]
   go_wp2_with fail
   have hR:=HR.out
   subst hR
   exact ⟨rfl,fun h=>absurd rfl h,HY4.out.symm⟩
  all_goals
   intro jj x g1 g2 hx
   generalize hR:(fun v w'=>(_→v=_)∧_)=RR
   have HR:=hid hR
   have HXX:=hid hx
   clear hR g1 g2 hx
   try simp only [putsFrom,Act.put,qA,qB,qC,Nat.zero_add,Nat.reduceAdd,List.getD_cons_zero,List.getD_cons_succ]
   go_wp2_with fail
   have hR:=HR.out
   subst hR
   exact ⟨rfl,fun _=>rfl,HXX.out⟩
 ·intro x hx
  obtain rfl:x=Y4:=hx
  simp only [putsFrom,Act.put,qA,qB,qC,Nat.zero_add,Nat.reduceAdd,List.getD_cons_zero,List.getD_cons_succ]
  go_wp2_with fail
  go_end0
  exact HFD.out
 ·exact fun _ _ _ _ h=>h.elim
end Go.Proofs.YtfbachckdadhoaaGreat.C
namespace Go.Proofs.YtfbachckdadhoaaGreat.C
set_option linter.unusedVariables false
open Go.RowKit Fl
open Go.Proofs.YtfbachckdadhoaaGreat.P (RAt ReadRet wrongP getNum getKey getCount)
set_option linter.unusedSimpArgs false

theorem RAt.lift {B R T:Nat} {c:CL} {ow:Nat→Nat} {bs:List Nat} {w w':World} (h:LSt B R T c ow bs w) (f:FrR R ow ow w w') (hR:w'.heap[R]? = w.heap[R]?):RAt B R bs w' :=
 h.r.keep hR fun b hb=>f.block b (Nat.lt_of_lt_of_le hb h.c.hB) (Classical.byContradiction fun h0=>by have:=(h.c.low b h0).1;omega) (by have:=h.b;omega)
theorem LSt.ch {B R T:Nat} {c:CL} {ow:Nat→Nat} {bs:List Nat} {w:World} (h:LSt B R T c ow bs w) (hr:c.recs=[]) (cnt hz:Int) :
  ((w.setCell ⟨T,2,none⟩ (.int .i64 cnt)).setCell ⟨T,3,none⟩ (.int .i64 hz)).heap[T]? = some (.cells ({ c with count:=cnt,horizon:=hz }:CL).box 78 (0,0)) ∧
  FrR R ow ow w ((w.setCell ⟨T,2,none⟩ (.int .i64 cnt)).setCell ⟨T,3,none⟩ (.int .i64 hz))∧RAt B R bs ((w.setCell ⟨T,2,none⟩ (.int .i64 cnt)).setCell ⟨T,3,none⟩ (.int .i64 hz)) ∧
  (0≤hz∧hz≤cnt∧cnt≤1099511627776→LSt B R T { c with count:=cnt,horizon:=hz } ow bs ((w.setCell ⟨T,2,none⟩ (.int .i64 cnt)).setCell ⟨T,3,none⟩ (.int .i64 hz))):=by
 obtain ⟨q1,g1⟩:=K.set1 (i:=2) h.c.box (.int .i64 cnt)
 obtain ⟨q2,g2⟩:=K.set1 (i:=3) q1 (.int .i64 hz)
 have g:=g1.trans g2
 generalize (w.setCell ⟨T,2,none⟩ (.int .i64 cnt)).setCell ⟨T,3,none⟩ (.int .i64 hz)=w' at *
 have hRT:R≠T:=fun e=>by have:=h.z;rw [e,h.c.hT] at this;cases this
 have f:FrR R ow ow w w':=⟨g.os,g.tape,g.output,g.size,fun k hk h0 _=>g.block k hk fun e=>(by have:=Option.some.inj e;rw [this,h.c.hT] at h0;cases h0),fun _ _=>rfl⟩
 have r:=RAt.lift h f (g.block R h.r.lt fun e=>hRT (Option.some.inj e))
 refine ⟨q2,f,r,fun h1=>⟨?_,r,h.z,h.b⟩⟩
 have kp:∀ j:Nat,j≠1→Keeps w w' (fun k=>ow k=j):=fun j hj k hk' e=>g.block k hk' fun e'=>hj (by have:=Option.some.inj e';rw [←e,this];exact h.c.hT)
 have id:∀ S:Nat→Prop,∀ k,k<w.heap.size→S k→S k:=fun S k _ h=>h
 exact ⟨q2,h.c.hT,row_kept h.c.row fun k e=>g.block k (h.c.row.lt k e).2 fun e'=>(h.c.hrow k e).2 (Option.some.inj e'),h.c.hrow,h.c.k1.kept (id _) (kp 2 (by decide)),h.c.k2.kept (id _) (kp 3 (by decide)),h.c.k3.kept (id _) (kp 4 (by decide)),h.c.k4.kept (id _) (kp 5 (by decide)),fun r hr=>(h.c.subs r hr).kept (id _) (kp 6 (by decide)),fun k hk=>⟨(h.c.low k hk).1,Nat.lt_of_lt_of_le (h.c.low k hk).2 g.size⟩,h1,fun r hx=>(by rw [hr] at hx;cases hx),h.c.kp,h.c.chk⟩
def NR (B R T:Nat) (c:CL) (ow:Nat→Nat) (Y0:World) (bs:List Nat) (cnt hz:Int) (r1 r2:List Nat):Nat→World→Prop
 | 0,x=>x=Y0
 | 1,x=>getNum bs=some (cnt,r1)∧LSt B R T c ow r1 x∧FrR R ow ow Y0 x
 | 2,x=>getNum bs=some (cnt,r1)∧getNum r1=some (hz,r2)∧LSt B R T c ow r2 x∧FrR R ow ow Y0 x
 | 3,x=>getNum bs=some (cnt,r1)∧getNum r1=some (hz,r2)∧∃ y,LSt B R T c ow r2 y∧FrR R ow ow Y0 y∧x=y.setCell ⟨T,2,none⟩ (.int .i64 cnt)
 | _,x=>getNum bs=some (cnt,r1)∧getNum r1=some (hz,r2)∧∃ y,LSt B R T c ow r2 y∧FrR R ow ow Y0 y∧x=(y.setCell ⟨T,2,none⟩ (.int .i64 cnt)).setCell ⟨T,3,none⟩ (.int .i64 hz)
theorem FrR.cnt {B R T:Nat} {c:CL} {ow:Nat→Nat} {bs:List Nat} {Y0 w:World} (f:FrR R ow ow Y0 w) (h:LSt B R T c ow bs w) (v:Value):FrR R ow ow Y0 (w.setCell ⟨T,2,none⟩ v):=by
 obtain ⟨q1,g⟩:=K.set1 (i:=2) h.c.box v
 exact f.trans ⟨g.os,g.tape,g.output,g.size,fun k hk h0 _=>g.block k hk fun e=>(by have:=Option.some.inj e;rw [this,h.c.hT] at h0;cases h0),fun _ _=>rfl⟩
theorem NR.box {B R T:Nat} {c:CL} {ow:Nat→Nat} {Y0:World} {bs:List Nat} {cnt hz:Int} {r1 r2:List Nat}:∀ {jj:Nat} {x:World},jj≤3→NR B R T c ow Y0 bs cnt hz r1 r2 jj x→∀ X,X<Y0.heap.size→ow X=0→X≠R→x.heap[X]? = Y0.heap[X]?
 | 0,x,_,h,X,_,_,_=>by rw [show x=Y0 from h]
 | 1,x,_,h,X,h1,h2,h3=>h.2.2.block X h1 h2 h3
 | 2,x,_,h,X,h1,h2,h3=>h.2.2.2.block X h1 h2 h3
 | 3,x,_,h,X,h1,h2,h3=>by
  obtain ⟨_,_,y,k1,k2,rfl⟩:=h
  exact (k2.cnt k1 _).block X h1 h2 h3
 | n+4,_,h,_,_,_,_,_=>absurd h (by omega)
def tabsN (most:Int) (ne:Bool) (lo hi:Int) (c:CL) (bs:List Nat):Nat→Option (CL×List Nat)
 | 0=>some (c,bs)
 | j+1=>match tabsN most ne lo hi c bs j with
  | none=>none
  | some (c',r)=>(ldKeys most ne lo hi (c'.tab j) r).map fun p=>(c'.setTab j p.1,p.2)
theorem tabsN_none {most:Int} {ne:Bool} {lo hi:Int} {c:CL} {bs:List Nat}:∀ {i k:Nat},tabsN most ne lo hi c bs i=none→tabsN most ne lo hi c bs (i+k)=none
 | i,0,h=>h
 | i,k+1,h=>by
  show (match tabsN most ne lo hi c bs (i+k) with
   | none=>none
   | some (c',r)=>(ldKeys most ne lo hi (c'.tab (i+k)) r).map fun p=>(c'.setTab (i+k) p.1,p.2))=none
  rw [tabsN_none h]
theorem recsN_none {a:Int} {bs:List Nat}:∀ {i k:Nat},ldRecs a i bs=none→ldRecs a (i+k) bs=none
 | i,0,h=>h
 | i,k+1,h=>by
  show (match ldRecs a (i+k) bs with
   | none=>none
   | some (L,r)=>match ldDone (a+(i+k:Nat)) r with
    | none=>none
    | some (x,r')=>some (L++[x],r'))=none
  rw [recsN_none h]
theorem tadr_setTab (c:CL) (j k:Nat) (its:List ItV):(c.setTab j its).tadr k=c.tadr k:=by
 have h:(c.setTab j its).t1=c.t1∧(c.setTab j its).t2=c.t2∧(c.setTab j its).t3=c.t3:=by
  unfold CL.setTab
  split
  ·exact ⟨rfl,rfl,rfl⟩
  ·split
   ·exact ⟨rfl,rfl,rfl⟩
   ·exact ⟨rfl,rfl,rfl⟩
 unfold CL.tadr
 rw [h.1,h.2.1,h.2.2]
theorem i4_setTab (c:CL) (j:Nat) (its:List ItV):(c.setTab j its).i4=c.i4∧(c.setTab j its).t4=c.t4:=by
 unfold CL.setTab
 split
 ·exact ⟨rfl,rfl⟩
 ·split
  ·exact ⟨rfl,rfl⟩
  ·exact ⟨rfl,rfl⟩
theorem tabsN_keeps {most:Int} {ne:Bool} {lo hi:Int} {c:CL} {bs:List Nat}:∀ {j:Nat} {c':CL} {r:List Nat},tabsN most ne lo hi c bs j=some (c',r)→c'.recs=c.recs∧c'.horizon=c.horizon∧c'.keep=c.keep∧c'.old=c.old∧c'.count=c.count∧(∀ k,c'.tadr k=c.tadr k)∧c'.i4=c.i4∧c'.t4=c.t4
 | 0,c',r,h=>by cases h;exact ⟨rfl,rfl,rfl,rfl,rfl,fun _=>rfl,rfl,rfl⟩
 | j+1,c',r,h=>by
  have h:(match tabsN most ne lo hi c bs j with
   | none=>none
   | some (c',r)=>(ldKeys most ne lo hi (c'.tab j) r).map fun p=>(c'.setTab j p.1,p.2))=some (c',r):=h
  cases h1:tabsN most ne lo hi c bs j with
  | none=>rw [h1] at h;cases h
  | some p =>
   obtain ⟨c1,r1⟩:=p
   rw [h1] at h
   simp only at h
   cases h2:ldKeys most ne lo hi (c1.tab j) r1 with
   | none=>rw [h2] at h;cases h
   | some p =>
    obtain ⟨its,r2⟩:=p
    rw [h2] at h
    cases h
    obtain ⟨k1,k2,k3,k4,k5,k6,k7,k8⟩:=tabsN_keeps h1
    obtain ⟨e1,e2,e3,e4,e5,_⟩:=setTab_rest c1 j its
    exact ⟨e1.trans k1,e2.trans k2,e3.trans k3,e4.trans k4,e5.trans k5,fun k=>(tadr_setTab c1 j k its).trans (k6 k),(i4_setTab c1 j its).1.trans k7,(i4_setTab c1 j its).2.trans k8⟩
theorem tabs_eq {most:Int} {L:List RecV} {hz:Int} {bs:List Nat} {c:CL} (h1:c.i1=[]) (h2:c.i2=[]) (h3:c.i3=[]) (h4:c.i4=[]) :
  ldTabs most L hz bs=match tabsN most (neOf L) hz (hiOf L) c bs 3 with
   | none=>none
   | some (c',r)=>(ldSps most (neOf L) hz (hiOf L) c.i4 r).map fun p=>((c'.i1,c'.i2,c'.i3,p.1),p.2):=by
 unfold ldTabs
 show _=(match (match (match (match some (c,bs) with
   | none=>none
   | some (c',r)=>(ldKeys most (neOf L) hz (hiOf L) (c'.tab 0) r).map fun (p:List ItV×List Nat)=>(c'.setTab 0 p.1,p.2)) with
   | none=>none
   | some (c',r)=>(ldKeys most (neOf L) hz (hiOf L) (c'.tab 1) r).map fun (p:List ItV×List Nat)=>(c'.setTab 1 p.1,p.2)) with
   | none=>none
   | some (c',r)=>(ldKeys most (neOf L) hz (hiOf L) (c'.tab 2) r).map fun (p:List ItV×List Nat)=>(c'.setTab 2 p.1,p.2)) with
   | none=>none
   | some (c',r)=>(ldSps most (neOf L) hz (hiOf L) c.i4 r).map fun (p:List Q.ItV×List Nat)=>((c'.i1,c'.i2,c'.i3,p.1),p.2))
 have e0:c.tab 0=[]:=h1
 have e1:∀ a,(c.setTab 0 a).tab 1=[]:=fun _=>h2
 have e2:∀ a b,((c.setTab 0 a).setTab 1 b).tab 2=[]:=fun _ _=>h3
 simp only [e0,h4]
 cases ldKeys most (neOf L) hz (hiOf L) [] bs with
 | none=>rfl
 | some p1 =>
  simp only [Option.map_some,Option.bind_some,e1]
  cases ldKeys most (neOf L) hz (hiOf L) [] p1.2 with
  | none=>rfl
  | some p2 =>
   simp only [Option.map_some,Option.bind_some,e2]
   cases ldKeys most (neOf L) hz (hiOf L) [] p2.2 with
   | none=>rfl
   | some p3 =>
    simp only [Option.map_some,Option.bind_some]
    rfl
def LoadRet1 (B R T:Nat) (ow:Nat→Nat) (q:Option (CL×List Nat)) (w:World) (e:Ending) (w':World):Prop:=match q with
 | none=>e=.panicked wrongP∧∃ ow',FrR R ow ow' w w'
 | some (c0,r)=>e=.returned (.tuple #[])∧∃ (c':CL) (ow':Nat→Nat),LSt B R T c' ow' r w'∧FrR R ow ow' w w'∧CL.n c'=c0
end Go.Proofs.YtfbachckdadhoaaGreat.C
namespace Go.Proofs.YtfbachckdadhoaaGreat.C
set_option linter.unusedVariables false
open Go.RowKit Fl
open Go.Proofs.YtfbachckdadhoaaGreat.P (RAt ReadRet wrongP getNum getKey getCount)
set_option linter.unusedSimpArgs false

structure CB (C L R T:Nat) (ow:Nat→Nat) (w:World):Prop where
 c:w.heap[C]? = some (.cells #[.pointer (some ⟨T,0,none⟩)] 23 (0,0))
 l:w.heap[L]? = some (.cells #[.pointer (some ⟨R,0,none⟩),.pointer (some ⟨T,0,none⟩)] 143 (0,0))
 c0:ow C=0
 l0:ow L=0
 cR:C≠R
 lR:L≠R
theorem CB.step {C L R T:Nat} {ow ow':Nat→Nat} {w w':World} (h:CB C L R T ow w) (f:FrR R ow ow' w w'):CB C L R T ow' w':=by
 have h1:=(Array.getElem?_eq_some_iff.1 h.c).1
 have h2:=(Array.getElem?_eq_some_iff.1 h.l).1
 exact ⟨(f.block C h1 h.c0 h.cR).trans h.c,(f.block L h2 h.l0 h.lR).trans h.l,(f.own C h1).trans h.c0,(f.own L h2).trans h.l0,h.cR,h.lR⟩
theorem CB.bounds {C L R T:Nat} {ow:Nat→Nat} {w:World} (h:CB C L R T ow w):w.cell? ⟨C,0,none⟩=some (.pointer (some ⟨T,0,none⟩))∧w.cell? ⟨L,0,none⟩=some (.pointer (some ⟨R,0,none⟩))∧w.cell? ⟨L,1,none⟩=some (.pointer (some ⟨T,0,none⟩))∧C<w.heap.size∧L<w.heap.size :=
 ⟨cell_row h.c 0,cell_row h.l 0,cell_row h.l 1,(Array.getElem?_eq_some_iff.1 h.c).1,(Array.getElem?_eq_some_iff.1 h.l).1⟩
theorem recs_len {a:Int} {bs:List Nat}:∀ {i:Nat} {L:List RecV} {r:List Nat},ldRecs a i bs=some (L,r)→L.length=i
 | 0,L,r,h=>by cases h;rfl
 | i+1,L,r,h=>by
  have h:(match ldRecs a i bs with
   | none=>none
   | some (L,r)=>match ldDone (a+i) r with
    | none=>none
    | some (x,r')=>some (L++[x],r'))=some (L,r):=h
  cases h1:ldRecs a i bs with
  | none=>rw [h1] at h;cases h
  | some p =>
   obtain ⟨L1,r1⟩:=p
   rw [h1] at h
   simp only at h
   cases h2:ldDone (a+i) r1 with
   | none=>rw [h2] at h;cases h
   | some p =>
    rw [h2] at h
    cases h
    rw [List.length_append,recs_len h1];rfl
theorem n_rest {c1 cc:CL} {Ls:List RecV} (h:CL.n c1 = { CL.n cc with recs:=Ls }):c1.keep=cc.keep∧c1.old=cc.old∧c1.count=cc.count∧c1.horizon=cc.horizon∧c1.recs.length=Ls.length∧c1.i1=cc.i1∧c1.i2=cc.i2∧c1.i3=cc.i3∧c1.i4=cc.i4∧c1.recs.map RecV.n=Ls:=by
 have h0:c1.recs.map RecV.n=Ls:=congrArg CL.recs h
 exact ⟨(by have:=congrArg CL.keep h;exact this),(by have:=congrArg CL.old h;exact this),(by have:=congrArg CL.count h;exact this),(by have:=congrArg CL.horizon h;exact this),(by rw [←h0,List.length_map]),(by have:=congrArg CL.i1 h;exact this),(by have:=congrArg CL.i2 h;exact this),(by have:=congrArg CL.i3 h;exact this),(by have:=congrArg CL.i4 h;exact this),h0⟩
theorem ne_n (L:List RecV):neOf (L.map RecV.n)=neOf L∧hiOf (L.map RecV.n)=hiOf L:=by
 cases L with
 | nil=>exact ⟨rfl,rfl⟩
 | cons x L=>exact ⟨rfl,rfl⟩
theorem tadr_cell {w:World} {D:Nat} {c:CL} {ty:TypeId} (h:w.heap[D]? = some (.cells #[.pointer (some ⟨c.t1,0,none⟩),.pointer (some ⟨c.t2,0,none⟩),.pointer (some ⟨c.t3,0,none⟩)] ty (0,0))) {j:Nat} (hj:j<3):w.cell? ⟨D,j,none⟩=some (.pointer (some ⟨c.tadr j,0,none⟩)):=by
 have:j=0∨j=1∨j=2:=by omega
 rcases this with rfl|rfl|rfl
 ·exact cell_row h 0
 ·exact cell_row h 1
 ·exact cell_row h 2
structure DB (D R:Nat) (c:CL) (ow:Nat→Nat) (w:World):Prop where
 d:w.heap[D]? = some (.cells #[.pointer (some ⟨c.t1,0,none⟩),.pointer (some ⟨c.t2,0,none⟩),.pointer (some ⟨c.t3,0,none⟩)] 72 (0,0))
 d0:ow D=0
 dR:D≠R
theorem DB.step {D R:Nat} {c:CL} {ow ow':Nat→Nat} {w w':World} (h:DB D R c ow w) (f:FrR R ow ow' w w'):DB D R c ow' w':=by
 have h1:=(Array.getElem?_eq_some_iff.1 h.d).1
 exact ⟨(f.block D h1 h.d0 h.dR).trans h.d,(f.own D h1).trans h.d0,h.dR⟩
set_option maxHeartbeats 8000000 in
set_option maxRecDepth 100000 in
theorem load1_any {B R T C:Nat} {c:CL} {ow:Nat→Nat} {bs:List Nat} {w:World} (h:LSt B R T c ow bs w) (hC:w.heap[C]? = some (.cells #[.pointer (some ⟨T,0,none⟩)] 23 (0,0))) (hC0:ow C=0) (hCR:C≠R) (hf:c.recs=[]∧c.i1=[]∧c.i2=[]∧c.i3=[]∧c.i4=[]) :
  Calls Tryz.prog 71 #[.pointer (some ⟨R,0,none⟩),.pointer (some ⟨C,0,none⟩)] w (LoadRet1 B R T ow (ldBody c.keep c.old bs) w):=by
 obtain ⟨q,hq⟩:∃ q,ldBody c.keep c.old bs=q:=⟨_,rfl⟩
 rw [hq]
 have HQ:=hid hq
 have HS:=hid h
 have HE:=hid hf
 obtain ⟨kn,hkn⟩:∃ k:Nat,c.keep=k:=⟨c.keep.toNat,by have:=h.c.kp;omega⟩
 have HK:=hid hkn
 have k0:=cell_row hC 0
 have k0:w.cell? ⟨C,0,none⟩=some (.pointer (some ⟨T,0,none⟩)):=k0
 have hCl:=(Array.getElem?_eq_some_iff.1 hC).1
 have HCC:=hid hC
 clear hq h hf hkn hC
 go_enter Tryz.func71,Tryz.ntmps71
 go_upto_region 1 with fail
 generalize hW1:World.alloc w _=w1
 have hb1:Below w.heap.size w w1:=by rw [←hW1];exact below_auto
 have q1:w1.heap[w.heap.size]? = some (.cells #[.pointer (some ⟨R,0,none⟩),.pointer (some ⟨T,0,none⟩)] 143 (0,0)):=by rw [←hW1];exact heap_alloc_new w _
 obtain ⟨L,hL⟩:∃ L,L=w.heap.size:=⟨_,rfl⟩
 have hRl:=HS.out.r.lt
 have hLo:ow L=0:=Classical.byContradiction fun h0=>by have:=(HS.out.c.low L h0).2;omega
 have HB1:=hid (show CB C L R T ow w1 from ⟨(hb1.block C hCl).trans HCC.out,by rw [hL];exact q1,hC0,hLo,hCR,by omega⟩)
 rw [←hL] at q1 ⊢
 obtain ⟨Y0,hY0⟩:∃ Y:World,Y = { w1 with drawn:=w1.drawn+1 }:=⟨_,rfl⟩
 have hb0:Below w1.heap.size w1 Y0:=by rw [hY0];exact Below.drew (Below.refl _ _)
 have SY:=hid ((HS.out.below hb1).below hb0)
 have FY:=hid ((FrR.of_below (R:=R) ow hb1).trans (FrR.of_below ow hb0))
 have HBY:=hid (HB1.out.step (FrR.of_below ow hb0))
 have HCY:=hid (And.intro (Array.getElem?_eq_some_iff.1 HBY.out.c).1 HBY.out.c)
 have HLY:=hid (And.intro (Array.getElem?_eq_some_iff.1 HBY.out.l).1 HBY.out.l)
 have HY0:=hid hY0
 obtain ⟨cnt,hcnt⟩:∃ v,v=((getNum bs).map Prod.fst).getD 0:=⟨_,rfl⟩
 obtain ⟨r1,hr1⟩:∃ v,v=((getNum bs).map Prod.snd).getD []:=⟨_,rfl⟩
 obtain ⟨hz,hhz⟩:∃ v,v=((getNum r1).map Prod.fst).getD 0:=⟨_,rfl⟩
 obtain ⟨r2,hr2⟩:∃ v,v=((getNum r1).map Prod.snd).getD []:=⟨_,rfl⟩
 have H1:=hid fun (a:Int) (r:List Nat) (h:getNum bs=some (a,r))=>(show cnt=a∧r1=r from by rw [hcnt,hr1,h];exact ⟨rfl,rfl⟩)
 have H2:=hid fun (a:Int) (r:List Nat) (h:getNum r1=some (a,r))=>(show hz=a∧r2=r from by rw [hhz,hr2,h];exact ⟨rfl,rfl⟩)
 have HN1:=hid fun (h:getNum bs=none)=>(show q=none from by rw [←HQ.out];unfold ldBody;rw [h])
 have HN2:=hid fun (h:getNum bs=some (cnt,r1)) (h2:getNum r1=none)=>(show q=none from by rw [←HQ.out];unfold ldBody;rw [h];simp only;rw [h2])
 have HQ3:=hid fun (h:getNum bs=some (cnt,r1)) (h2:getNum r1=some (hz,r2))=>(show q=if 0≤hz∧hz≤cnt∧cnt≤1099511627776 then (match getCount kn r2 with
   | none=>none
   | some (n,r3)=>if (n:Int)≤cnt-hz then (match ldRecs (cnt-n+1) n r3 with
    | none=>none
    | some (L,r4)=>(ldTabs (mostI c.old) L hz r4).map fun p=>(⟨c.keep,c.old,cnt,hz,L,none,0,0,0,0,0,p.1.1,p.1.2.1,p.1.2.2.1,p.1.2.2.2⟩,p.2)) else none) else none from by
  rw [←HQ.out];unfold ldBody;rw [h];simp only;rw [h2];simp only;rw [HK.out];rfl)
 clear hW1 hb1 q1 hL hRl hLo hY0 hb0 hcnt hr1 hhz hr2 k0 hCl HCC HB1
 refine wp_region_chain (fun i=>[Value.pointer (some ⟨T,0,none⟩),.pointer (some ⟨T,0,none⟩),.pointer (some ⟨L,0,none⟩),.pointer (some ⟨R,0,none⟩),.int .i64 cnt,.pointer (some ⟨L,0,none⟩),.pointer (some ⟨R,0,none⟩),.int .i64 hz,.pointer (some ⟨T,0,none⟩),.pointer (some ⟨T,2,none⟩),undef,.pointer (some ⟨T,0,none⟩),.pointer (some ⟨T,3,none⟩),undef].getD i undef) (NR B R T c ow Y0 bs cnt hz r1 r2) (fun c x=>c=wrongP∧q=none∧FrR R ow ow Y0 x) [4,7,10,13] rfl (by kernel_rfl) (by kernel_rfl) (by decide) (by decide) HY0.out.symm ?_ ?_ ?_
 ·simp only [StepsC,List.nil_append,List.cons_append]
  refine ⟨?l0,?l1,?_,?l3,?c4,?_,?l6,?c7,?_,?_,?s10,?_,?_,?s13,trivial⟩
  case l0 =>
   intro jj x g1 g2 hx
   have hq:=(NR.box (Nat.le_trans g2 (by decide +kernel)) hx C HCY.out.1 HBY.out.c0 HBY.out.cR).trans HCY.out.2
   have k0:x.cell? ⟨C,0,none⟩=some (.pointer (some ⟨T,0,none⟩)):=cell_row hq 0
   clear hq
   generalize hR:(fun v w'=>(_→v=_)∧_)=RR
   have HR:=hid hR
   have HXX:=hid hx
   clear hR g1 g2 hx
   try simp only [putsFrom,Act.put,qA,qB,qC,Nat.zero_add,Nat.reduceAdd,List.getD_cons_zero,List.getD_cons_succ]
   go_wp2_with fail
   have hR:=HR.out
   subst hR
   exact ⟨rfl,fun _=>rfl,HXX.out⟩
  case l1 =>
   intro jj x g1 g2 hx
   have hq:=(NR.box (Nat.le_trans g2 (by decide +kernel)) hx C HCY.out.1 HBY.out.c0 HBY.out.cR).trans HCY.out.2
   have k0:x.cell? ⟨C,0,none⟩=some (.pointer (some ⟨T,0,none⟩)):=cell_row hq 0
   clear hq
   generalize hR:(fun v w'=>(_→v=_)∧_)=RR
   have HR:=hid hR
   have HXX:=hid hx
   clear hR g1 g2 hx
   try simp only [putsFrom,Act.put,qA,qB,qC,Nat.zero_add,Nat.reduceAdd,List.getD_cons_zero,List.getD_cons_succ]
   go_wp2_with fail
   have hR:=HR.out
   subst hR
   exact ⟨rfl,fun _=>rfl,HXX.out⟩
  case l3 =>
   intro jj x g1 g2 hx
   have hq:=(NR.box (Nat.le_trans g2 (by decide +kernel)) hx L HLY.out.1 HBY.out.l0 HBY.out.lR).trans HLY.out.2
   obtain ⟨x0,x1,-,-⟩:=row2 hq
   clear hq
   generalize hR:(fun v w'=>(_→v=_)∧_)=RR
   have HR:=hid hR
   have HXX:=hid hx
   clear hR g1 g2 hx
   try simp only [putsFrom,Act.put,qA,qB,qC,Nat.zero_add,Nat.reduceAdd,List.getD_cons_zero,List.getD_cons_succ]
   go_wp2_with fail
   have hR:=HR.out
   subst hR
   exact ⟨rfl,fun _=>rfl,HXX.out⟩
  case l6 =>
   intro jj x g1 g2 hx
   have hq:=(NR.box (Nat.le_trans g2 (by decide +kernel)) hx L HLY.out.1 HBY.out.l0 HBY.out.lR).trans HLY.out.2
   obtain ⟨x0,x1,-,-⟩:=row2 hq
   clear hq
   generalize hR:(fun v w'=>(_→v=_)∧_)=RR
   have HR:=hid hR
   have HXX:=hid hx
   clear hR g1 g2 hx
   try simp only [putsFrom,Act.put,qA,qB,qC,Nat.zero_add,Nat.reduceAdd,List.getD_cons_zero,List.getD_cons_succ]
   go_wp2_with fail
   have hR:=HR.out
   subst hR
   exact ⟨rfl,fun _=>rfl,HXX.out⟩
  case c4 =>
   intro jj x g1 g2 hx
   obtain rfl:jj=0:=Nat.le_zero.1 (Nat.le_trans g2 (by decide +kernel))
   obtain rfl:x=Y0:=hx
   generalize hR:(fun v w'=>(_→v=_)∧_)=RR
   have HR:=hid hR
   clear hR g1 g2
   simp only [putsFrom,Act.put,qA,qB,qC,Nat.zero_add,Nat.reduceAdd,List.getD_cons_zero,List.getD_cons_succ]
   go_wp2_with fail
   refine (P.num_any B R bs x SY.out.r).mono ?_
   intro e w9 h9
   cases h0:getNum bs with
   | none =>
    rw [h0] at h9
    obtain ⟨rfl,hg⟩:=h9
    have HG:=hid (And.intro (HN1.out h0) (FrR.grown ow hg))
    go_wp2_with fail
    exact ⟨rfl,HG.out⟩
   | some p =>
    obtain ⟨a,r⟩:=p
    obtain ⟨rfl,rfl⟩:=H1.out a r h0
    rw [h0] at h9
    obtain ⟨rfl,hr,hg⟩:=h9
    have HG:Hid (NR B R T c ow x bs cnt hz r1 r2 1 w9):=hid ⟨h0,SY.out.read hg hr,FrR.grown ow hg⟩
    clear h0 hr hg
    go_wp2_with fail
    have hR:=HR.out
    subst hR
    exact ⟨rfl,fun _=>rfl,HG.out⟩
  case c7 =>
   intro jj x g1 g2 hx
   obtain rfl:jj=1:=Nat.le_antisymm (Nat.le_trans g2 (by decide +kernel)) (Nat.le_trans (by decide +kernel) g1)
   obtain ⟨hx1,hx2,hx3⟩:=hx
   have X1:=hid hx1;have X2:=hid hx2;have X3:=hid hx3
   generalize hR:(fun v w'=>(_→v=_)∧_)=RR
   have HR:=hid hR
   clear hR g1 g2 hx1 hx2 hx3
   simp only [putsFrom,Act.put,qA,qB,qC,Nat.zero_add,Nat.reduceAdd,List.getD_cons_zero,List.getD_cons_succ]
   go_wp2_with fail
   refine (P.num_any B R r1 x X2.out.r).mono ?_
   intro e w9 h9
   cases h0:getNum r1 with
   | none =>
    rw [h0] at h9
    obtain ⟨rfl,hg⟩:=h9
    have HG:=hid (And.intro (HN2.out X1.out h0) (X3.out.trans (FrR.grown ow hg)))
    go_wp2_with fail
    exact ⟨rfl,HG.out⟩
   | some p =>
    obtain ⟨a,r⟩:=p
    obtain ⟨rfl,rfl⟩:=H2.out a r h0
    rw [h0] at h9
    obtain ⟨rfl,hr,hg⟩:=h9
    have HG:Hid (NR B R T c ow Y0 bs cnt hz r1 r2 2 w9):=hid ⟨X1.out,h0,X2.out.read hg hr,X3.out.trans (FrR.grown ow hg)⟩
    clear h0 hr hg
    go_wp2_with fail
    have hR:=HR.out
    subst hR
    exact ⟨rfl,fun _=>rfl,HG.out⟩
  case s10 =>
   intro jj x g1 g2 hx
   obtain rfl:jj=2:=Nat.le_antisymm (Nat.le_trans g2 (by decide +kernel)) (Nat.le_trans (by decide +kernel) g1)
   obtain ⟨hx1,hx2,hx3,hx4⟩:=hx
   have hT3:=hx3.c.box
   have HG:Hid (NR B R T c ow Y0 bs cnt hz r1 r2 3 (x.setCell ⟨T,2,none⟩ (.int .i64 cnt))):=hid ⟨hx1,hx2,x,hx3,hx4,rfl⟩
   obtain ⟨k0,k1,k2,-⟩:=row9 hT3
   have f2:x.frozen? ⟨T,2,none⟩=false:=by simp [World.frozen?,hT3]
   generalize hR:(fun v w'=>(_→v=_)∧_)=RR
   have HR:=hid hR
   clear hR g1 g2 hx1 hx2 hx3 hx4 hT3
   try simp only [putsFrom,Act.put,qA,qB,qC,Nat.zero_add,Nat.reduceAdd,List.getD_cons_zero,List.getD_cons_succ]
   go_wp2_with fail
   have hR:=HR.out
   subst hR
   exact ⟨rfl,fun h=>absurd rfl h,HG.out⟩
  case s13 =>
   intro jj x g1 g2 hx
   obtain rfl:jj=3:=Nat.le_antisymm (Nat.le_trans g2 (by decide +kernel)) (Nat.le_trans (by decide +kernel) g1)
   obtain ⟨hx1,hx2,y,hx3,hx4,rfl⟩:=hx
   have HG:Hid (NR B R T c ow Y0 bs cnt hz r1 r2 4 ((y.setCell ⟨T,2,none⟩ (.int .i64 cnt)).setCell ⟨T,3,none⟩ (.int .i64 hz))):=hid ⟨hx1,hx2,y,hx3,hx4,rfl⟩
   obtain ⟨hT3,-⟩:=K.set1 (i:=2) hx3.c.box (.int .i64 cnt)
   generalize y.setCell ⟨T,2,none⟩ (.int .i64 cnt)=x at *
   have hT3:x.heap[T]? = some (.cells ({ c with count:=cnt }:CL).box 78 (0,0)):=hT3
   obtain ⟨k0,k1,k2,k3,-⟩:=row9 hT3
   have f2:x.frozen? ⟨T,3,none⟩=false:=by simp [World.frozen?,hT3]
   generalize hR:(fun v w'=>(_→v=_)∧_)=RR
   have HR:=hid hR
   clear hR g1 g2 hx1 hx2 hx3 hx4 hT3
   try simp only [putsFrom,Act.put,qA,qB,qC,Nat.zero_add,Nat.reduceAdd,List.getD_cons_zero,List.getD_cons_succ]
   go_wp2_with fail
   have hR:=HR.out
   subst hR
   exact ⟨rfl,fun h=>absurd rfl h,HG.out⟩
  all_goals
   intro jj x g1 g2 hx
   generalize hR:(fun v w'=>(_→v=_)∧_)=RR
   have HR:=hid hR
   have HXX:=hid hx
   clear hR g1 g2 hx
   try simp only [putsFrom,Act.put,qA,qB,qC,Nat.zero_add,Nat.reduceAdd,List.getD_cons_zero,List.getD_cons_succ]
   go_wp2_with fail
   have hR:=HR.out
   subst hR
   exact ⟨rfl,fun _=>rfl,HXX.out⟩
 rotate_left
 ·intro c a x hd hx
  obtain ⟨rfl,rfl,hf⟩:=hx
  exact ⟨hd,rfl,_,FY.out.trans hf⟩
 intro x hx
 obtain ⟨h1,h2,y,k1,k2,rfl⟩:=hx
 obtain ⟨b1,f1,a1,l1⟩:=k1.ch HE.out.1 cnt hz
 have HQ4:=hid (HQ3.out h1 h2)
 generalize (y.setCell ⟨T,2,none⟩ (.int .i64 cnt)).setCell ⟨T,3,none⟩ (.int .i64 hz)=w2 at *
 have F2:=hid (FY.out.trans (k2.trans f1))
 have B2:=hid (HBY.out.step (k2.trans f1))
 have L2:=hid l1
 have hT2:w2.heap[T]? = some (.cells ({ c with count:=cnt,horizon:=hz }:CL).box 78 (0,0)):=b1
 clear k1 k2 f1 l1 a1 b1 h1 h2 HQ HQ3 HN1 HN2 H1 H2 HBY HCY HLY SY FY HY0
 simp only [putsFrom,Act.put,qA,qB,qC,Nat.zero_add,Nat.reduceAdd,List.getD_cons_zero,List.getD_cons_succ]
 have HP:=hid fun (W:World) (hb:Below w2.heap.size w2 W)=>(show FrR R ow ow w W from F2.out.trans (FrR.of_below ow hb))
 obtain ⟨u0,x0,x1,hCl,hLl⟩:=B2.out.bounds
 have hTl:=(Array.getElem?_eq_some_iff.1 hT2).1
 have t2:w2.cell? ⟨T,2,none⟩=some (.int .i64 cnt):=cell_row hT2 2
 have t3:w2.cell? ⟨T,3,none⟩=some (.int .i64 hz):=cell_row hT2 3
 clear hT2
 go_upto_region 2 with fail
 by_cases e1:0≤hz
 rotate_left
 ·obtain rfl:q=none:=by rw [HQ4.out];exact if_neg fun h=>e1 h.1
  clear HQ4
  (refine wp_region_ext_tail 24 (by kernel_rfl) (by kernel_rfl) (by kernel_rfl) ?_;simp only [List.take_succ_cons,List.take_zero,List.drop_succ_cons,List.drop_zero];(repeat (go_big_quiet_step (first|fail)));refine mX ?_;intro w3 hb3 hc3 hf3 hz3;intros)
  go_wp2_with fail
  refine (need_no R T w3).mono ?_
  rintro e w4 ⟨rfl,hb4⟩
  have HF:=hid (HP.out w4 (hb3.trans (hb4.mono hb3.size)))
  go_wp2_with fail
  exact ⟨rfl,rfl,ow,HF.out⟩
 by_cases e2:hz≤cnt
 rotate_left
 ·obtain rfl:q=none:=by rw [HQ4.out];exact if_neg fun h=>e2 h.2.1
  clear HQ4
  (refine wp_region_ext_tail 24 (by kernel_rfl) (by kernel_rfl) (by kernel_rfl) ?_;simp only [List.take_succ_cons,List.take_zero,List.drop_succ_cons,List.drop_zero];(repeat (go_big_quiet_step (first|fail)));refine mX ?_;intro w3 hb3 hc3 hf3 hz3;intros)
  go_wp2_with fail
  refine (need_no R T w3).mono ?_
  rintro e w4 ⟨rfl,hb4⟩
  have HF:=hid (HP.out w4 (hb3.trans (hb4.mono hb3.size)))
  go_wp2_with fail
  exact ⟨rfl,rfl,ow,HF.out⟩
 by_cases e3:cnt≤1099511627776
 rotate_left
 ·obtain rfl:q=none:=by rw [HQ4.out];exact if_neg fun h=>e3 h.2.2
  clear HQ4
  (refine wp_region_ext_tail 24 (by kernel_rfl) (by kernel_rfl) (by kernel_rfl) ?_;simp only [List.take_succ_cons,List.take_zero,List.drop_succ_cons,List.drop_zero];(repeat (go_big_quiet_step (first|fail)));refine mX ?_;intro w3 hb3 hc3 hf3 hz3;intros)
  go_wp2_with fail
  refine (need_no R T w3).mono ?_
  rintro e w4 ⟨rfl,hb4⟩
  have HF:=hid (HP.out w4 (hb3.trans (hb4.mono hb3.size)))
  go_wp2_with fail
  exact ⟨rfl,rfl,ow,HF.out⟩
 have HQ5:=hid (HQ4.out.trans (if_pos ⟨e1,e2,e3⟩))
 (refine wp_region_ext_tail 24 (by kernel_rfl) (by kernel_rfl) (by kernel_rfl) ?_;simp only [List.take_succ_cons,List.take_zero,List.drop_succ_cons,List.drop_zero];(repeat (go_big_quiet_step (first|fail)));refine mX ?_;intro w3 hb3 hc3 hf3 hz3;intros)
 go_wp2_with fail
 refine (need_yes R T w3).mono ?_
 rintro e w4 ⟨rfl,hb4⟩
 have hb24:=hb3.trans (hb4.mono hb3.size)
 have S4:=hid ((L2.out ⟨e1,e2,e3⟩).below hb24)
 have F4:=hid (HP.out w4 hb24)
 have B4:=hid (B2.out.step (FrR.of_below ow hb24))
 clear hb3 hc3 hf3 hz3 hb4 hb24 L2 F2 B2 HP HQ4 u0 x0 x1 hCl hLl hTl t2 t3
 obtain ⟨cc,hcc⟩:∃ cc:CL,cc = { c with count:=cnt,horizon:=hz }:=⟨_,rfl⟩
 rw [←hcc] at S4
 have HCC:=hid hcc
 have HR4:=hid (show cc.recs=[]∧cc.i1=[]∧cc.i2=[]∧cc.i3=[]∧cc.i4=[]∧cc.keep=kn∧cc.old=c.old∧cc.count=cnt∧cc.horizon=hz from by rw [hcc];exact ⟨HE.out.1,HE.out.2.1,HE.out.2.2.1,HE.out.2.2.2.1,HE.out.2.2.2.2,HK.out,rfl,rfl,rfl⟩)
 have TB:=hid fun (W:World) (hx:W.heap[T]? = some (.cells cc.box 78 (0,0)))=>(show W.cell? ⟨T,0,none⟩=some (.int .i64 kn)∧W.cell? ⟨T,2,none⟩=some (.int .i64 cnt)∧W.cell? ⟨T,3,none⟩=some (.int .i64 hz)∧T<W.heap.size from ⟨by rw [←HR4.out.2.2.2.2.2.1];exact cell_row hx 0,by rw [←HR4.out.2.2.2.2.2.2.2.1];exact cell_row hx 2,by rw [←HR4.out.2.2.2.2.2.2.2.2];exact cell_row hx 3,(Array.getElem?_eq_some_iff.1 hx).1⟩)
 clear hcc HE HS
 obtain ⟨u0,x0,x1,hCl,hLl⟩:=B4.out.bounds
 obtain ⟨t0,t2,t3,hTl⟩:=TB.out w4 S4.out.c.box
 go_upto_region 3 with fail
 (refine wp_region_ext_tail 7 (by kernel_rfl) (by kernel_rfl) (by kernel_rfl) ?_;simp only [List.take_succ_cons,List.take_zero,List.drop_succ_cons,List.drop_zero];(repeat (go_big_quiet_step (first|fail)));refine mX ?_;intro w5 hb5 hc5 hf5 hz5;intros)
 have S5:=hid (S4.out.below hb5)
 have F5:=hid (F4.out.trans (FrR.of_below ow hb5))
 have B5:=hid (B4.out.step (FrR.of_below ow hb5))
 clear hb5 hc5 hf5 hz5 S4 F4 B4 u0 x0 x1 hCl hLl t0 t2 t3 hTl
 go_wp2_with fail
 refine (P.count_any B R kn r2 w5 S5.out.r).mono ?_
 intro e w6 h6
 cases h0:getCount kn r2 with
 | none =>
  obtain rfl:q=none:=by rw [HQ5.out,h0]
  rw [h0] at h6
  obtain ⟨rfl,hg⟩:=h6
  have HF:=hid (F5.out.trans (FrR.grown ow hg))
  go_wp2_with fail
  exact ⟨rfl,rfl,ow,HF.out⟩
 | some p =>
 obtain ⟨n,r3⟩:=p
 have hnk:=P.count_le h0
 have HQ6:=hid (show q=if (n:Int)≤cnt-hz then (match ldRecs (cnt-n+1) n r3 with
   | none=>none
   | some (L,r4)=>(ldTabs (mostI c.old) L hz r4).map fun p=>(⟨c.keep,c.old,cnt,hz,L,none,0,0,0,0,0,p.1.1,p.1.2.1,p.1.2.2.1,p.1.2.2.2⟩,p.2)) else none from by rw [HQ5.out,h0])
 rw [h0] at h6
 obtain ⟨rfl,hr6,hg6⟩:=h6
 have S6:=hid (S5.out.read hg6 hr6)
 have F6:=hid (F5.out.trans (FrR.grown ow hg6))
 have B6:=hid (B5.out.step (FrR.grown ow hg6))
 have hk32:kn≤32:=by have:=S6.out.c.kp;have:=HR4.out.2.2.2.2.2.1;omega
 clear h0 hr6 hg6 S5 F5 B5 HQ5
 obtain ⟨u0,x0,x1,hCl,hLl⟩:=B6.out.bounds
 obtain ⟨t0,t2,t3,hTl⟩:=TB.out w6 S6.out.c.box
 clear t0
 go_upto_region 4 with fail
 by_cases e4:(n:Int)≤cnt-hz
 rotate_left
 ·obtain rfl:q=none:=by rw [HQ6.out];exact if_neg e4
  (refine wp_region_ext_tail 12 (by kernel_rfl) (by kernel_rfl) (by kernel_rfl) ?_;simp only [List.take_succ_cons,List.take_zero,List.drop_succ_cons,List.drop_zero];(repeat (go_big_quiet_step (first|fail)));refine mX ?_;intro w7 hb7 hc7 hf7 hz7;intros)
  go_wp2_with fail
  refine (need_no R T w7).mono ?_
  rintro e w8 ⟨rfl,hb8⟩
  have HF:=hid (F6.out.trans (FrR.of_below ow (hb7.trans (hb8.mono hb7.size))))
  go_wp2_with fail
  exact ⟨rfl,rfl,ow,HF.out⟩
 have HQ7:=hid (HQ6.out.trans (if_pos e4))
 (refine wp_region_ext_tail 12 (by kernel_rfl) (by kernel_rfl) (by kernel_rfl) ?_;simp only [List.take_succ_cons,List.take_zero,List.drop_succ_cons,List.drop_zero];(repeat (go_big_quiet_step (first|fail)));refine mX ?_;intro w7 hb7 hc7 hf7 hz7;intros)
 go_wp2_with fail
 refine (need_yes R T w7).mono ?_
 rintro e w8 ⟨rfl,hb8⟩
 have hb68:=hb7.trans (hb8.mono hb7.size)
 have S8:=hid (S6.out.below hb68)
 have F8:=hid (F6.out.trans (FrR.of_below ow hb68))
 have B8:=hid (B6.out.step (FrR.of_below ow hb68))
 clear hb7 hc7 hf7 hz7 hb8 hb68 S6 F6 B6 HQ6 u0 x0 x1 hCl hLl hTl t2 t3
 go_upto_region 6 with fail
 have HQN:=hid fun (i:Nat) (hi:i≤n) (h:ldRecs (cnt-n+1) i r3=none)=>(show q=none from by
  have h2:=recsN_none (k:=n-i) h
  rw [show i+(n-i)=n by omega] at h2
  rw [HQ7.out,h2])
 have HQ8:=hid fun (Ls:List RecV) (l:List Nat) (h:ldRecs (cnt-n+1) n r3=some (Ls,l))=>(show q=(ldTabs (mostI c.old) Ls hz l).map fun p=>(⟨c.keep,c.old,cnt,hz,Ls,none,0,0,0,0,0,p.1.1,p.1.2.1,p.1.2.2.1,p.1.2.2.2⟩,p.2) from by rw [HQ7.out,h])
 have HCH:=hid (And.intro e1 (And.intro e2 (And.intro e3 e4)))
 clear HQ7
 go_loopw [70] (fun t70 wr=>∃ (i:Nat) (Ls:List RecV) (l:List Nat) (c1:CL) (ow':Nat→Nat),t70=.int .i64 (i:Nat)∧i≤n∧Hid (ldRecs (cnt-n+1) i r3=some (Ls,l))∧Hid (LSt B R T c1 ow' l wr)∧Hid (FrR R ow ow' w wr)∧Hid (CB C L R T ow' wr)∧Hid (CL.n c1 = { CL.n cc with recs:=Ls })) (fun t70 _=>n-(intOf t70).toNat)
 case atStart=>exact ⟨0,[],r3,cc,ow,rfl,Nat.zero_le _,hid rfl,S8,F8,B8,hid (by unfold CL.n;rw [HR4.out.1];rfl)⟩
 case round =>
  obtain ⟨i,Ls,l,c1,ow',rfl,hi,HL,S,F,HB,HNN⟩:=hrel
  clear S8 F8 B8
  obtain ⟨n1,n2,n3,n4,n5,n6,n7,n8,n9,n10⟩:=n_rest HNN.out
  obtain ⟨u0,x0,x1,hCl,hLl⟩:=HB.out.bounds
  have hT:=S.out.c.box
  have hTl:=(Array.getElem?_eq_some_iff.1 hT).1
  by_cases hlt:i<n
  ·have hlt':(i:Int)<(n:Int):=by omega
   have t2:wr.cell? ⟨T,2,none⟩=some (.int .i64 cnt):=by rw [←HR4.out.2.2.2.2.2.2.2.1,←n3];exact cell_row hT 2
   have HD:=hid fun (W:World) (hb:Below wr.heap.size wr W)=>(show Calls Tryz.prog 75 #[.agg #[.pointer (some ⟨R,0,none⟩),.pointer (some ⟨T,0,none⟩)],.int .i64 (cnt-n+1+i)] W (DoneRet B R T c1 ow' (ldDone (cnt-n+1+i) l) W) from done_any (S.out.below hb) _ ⟨by omega,by rw [n3,HR4.out.2.2.2.2.2.2.2.1];omega⟩ (by rw [n5,recs_len HL.out,n1,HR4.out.2.2.2.2.2.1];omega))
   have HND:=hid fun (h:ldDone (cnt-n+1+i) l=none)=>(show q=none from HQN.out (i+1) hlt (by
    show (match ldRecs (cnt-n+1) i r3 with
     | none=>none
     | some (L,r)=>match ldDone (cnt-n+1+i) r with
      | none=>none
      | some (x,r')=>some (L++[x],r'))=none
    rw [HL.out];simp only;rw [h]))
   have HYD:=hid fun (y:RecV) (l':List Nat) (h:ldDone (cnt-n+1+i) l=some (y,l'))=>(show ldRecs (cnt-n+1) (i+1) r3=some (Ls++[y],l') from by
    show (match ldRecs (cnt-n+1) i r3 with
     | none=>none
     | some (L,r)=>match ldDone (cnt-n+1+i) r with
      | none=>none
      | some (x,r')=>some (L++[x],r'))=_
    rw [HL.out];simp only;rw [h])
   clear n1 n2 n3 n4 n5 n6 n7 n8 n9 n10 hT
   go_upto_region 8 with fail
   (refine wp_region_ext_tail 10 (by kernel_rfl) (by kernel_rfl) (by kernel_rfl) ?_;simp only [List.take_succ_cons,List.take_zero,List.drop_succ_cons,List.drop_zero];(repeat (go_big_quiet_step (first|fail)));refine mX ?_;intro w9 hb9 hc9 hf9 hz9;intros)
   have HD9:=hid (HD.out w9 hb9)
   have F9:=hid (F.out.trans (FrR.of_below ow' hb9))
   have B9:=hid (HB.out.step (FrR.of_below ow' hb9))
   clear hb9 hc9 hf9 hz9 S F HB HD u0 x0 x1 hCl hLl hTl t2
   go_wp2_with fail
   refine HD9.out.mono ?_
   intro e w10 h10
   cases hd:ldDone (cnt-n+1+i) l with
   | none =>
    obtain rfl:=HND.out hd
    rw [hd] at h10
    obtain ⟨rfl,ow2,f2⟩:=h10
    have HF:=hid (F9.out.trans f2)
    go_wp2_with fail
    exact ⟨rfl,rfl,_,HF.out⟩
   | some p =>
    obtain ⟨y,l'⟩:=p
    rw [hd] at h10
    obtain ⟨rfl,c2,ow2,s2,f2,hn2⟩:=h10
    have HL2:=hid (HYD.out y l' hd)
    have HS2:=hid s2
    have HF2:=hid (F9.out.trans f2)
    have HB2:=hid (B9.out.step f2)
    have HN2:=hid (show CL.n c2 = { CL.n cc with recs:=Ls++[y] } from by rw [hn2,HNN.out])
    clear hd s2 f2 hn2 F9 B9 HD9
    go_wp2_with fail
    go_roundw
    case rel=>exact ⟨i+1,Ls++[y],l',c2,ow2,by go_num,by omega,HL2,HS2,HF2,HB2,HN2⟩
    case measure=>simp [intOf];omega
  ·obtain rfl:i=n:=by omega
   have hge:¬(i:Int)<(i:Int):=by omega
   have HQ9:=hid (show q=(match tabsN (mostI c1.old) (neOf c1.recs) c1.horizon (hiOf c1.recs) c1 l 3 with
    | none=>none
    | some (c',r)=>(ldSps (mostI c1.old) (neOf c1.recs) c1.horizon (hiOf c1.recs) c1.i4 r).map fun (p:List Q.ItV×List Nat)=>((c'.i1,c'.i2,c'.i3,p.1),p.2)).map (fun (p:(List ItV×List ItV×List ItV×List Q.ItV)×List Nat)=>(⟨c.keep,c.old,cnt,hz,Ls,none,0,0,0,0,0,p.1.1,p.1.2.1,p.1.2.2.1,p.1.2.2.2⟩,p.2)) from by
    obtain ⟨r1,r2,r3,r4,r5,r6,r7,r8,r9⟩:=HR4.out
    rw [HQ8.out Ls l HL.out,tabs_eq (c:=c1) (by rw [n6,r2]) (by rw [n7,r3]) (by rw [n8,r4]) (by rw [n9,r5]),n2,r7,n4,r9,←n10,(ne_n c1.recs).1,(ne_n c1.recs).2]
    try rfl)
   have HL40:=hid (show (c1.recs.length:Int)≤40 by have:=S.out.c.kp;omega)
   have HKK:=hid (show c1.keep=c.keep∧c1.old=c.old∧c1.count=cnt∧c1.horizon=hz∧c1.recs.map RecV.n=Ls from by
    obtain ⟨r1,r2,r3,r4,r5,r6,r7,r8,r9⟩:=HR4.out
    exact ⟨by rw [n1,r6,HK.out],n2.trans r7,n3.trans r8,n4.trans r9,n10⟩)
   have t5:wr.cell? ⟨T,5,none⟩=some (.pointer (some ⟨c1.t1,0,none⟩)):=cell_row hT 5
   have t6:wr.cell? ⟨T,6,none⟩=some (.pointer (some ⟨c1.t2,0,none⟩)):=cell_row hT 6
   have t7:wr.cell? ⟨T,7,none⟩=some (.pointer (some ⟨c1.t3,0,none⟩)):=cell_row hT 7
   clear n1 n2 n3 n4 n5 n6 n7 n8 n9 n10 hT HQ8 HQN HCC HR4 TB HNN HL HK HCH
   go_upto_region 10 with fail
   go_region
   generalize hW8:World.drew _=w8
   have hb8:Below wr.heap.size wr w8:=by rw [←hW8];exact Below.drew (by exact below_auto)
   have qD:w8.heap[wr.heap.size]? = some (.cells #[.pointer (some ⟨c1.t1,0,none⟩),.pointer (some ⟨c1.t2,0,none⟩),.pointer (some ⟨c1.t3,0,none⟩)] 72 (0,0)):=by rw [←hW8];exact heap_alloc_new wr _
   obtain ⟨D,hD⟩:∃ D,D=wr.heap.size:=⟨_,rfl⟩
   rw [←hD] at qD ⊢
   have hD0:ow' D=0:=Classical.byContradiction fun h0=>by have:=(S.out.c.low D h0).2;omega
   have hDR:D≠R:=by have:=S.out.r.lt;omega
   have S8:=hid (S.out.below hb8)
   have F8:=hid (F.out.trans (FrR.of_below ow' hb8))
   have B8:=hid (HB.out.step (FrR.of_below ow' hb8))
   have D8:=hid (show DB D R c1 ow' w8 from ⟨qD,hD0,hDR⟩)
   have HTN:=hid fun (j:Nat) (hj:j≤3) (h:tabsN (mostI c1.old) (neOf c1.recs) c1.horizon (hiOf c1.recs) c1 l j=none)=>(show q=none from by
    have h2:=tabsN_none (k:=3-j) h
    rw [show j+(3-j)=3 by omega] at h2
    rw [HQ9.out,h2];rfl)
   have HQ10:=hid fun (c2:CL) (r:List Nat) (h:tabsN (mostI c1.old) (neOf c1.recs) c1.horizon (hiOf c1.recs) c1 l 3=some (c2,r))=>(show q=((ldSps (mostI c1.old) (neOf c1.recs) c1.horizon (hiOf c1.recs) c1.i4 r).map fun (p:List Q.ItV×List Nat)=>((c2.i1,c2.i2,c2.i3,p.1),p.2)).map (fun (p:(List ItV×List ItV×List ItV×List Q.ItV)×List Nat)=>(⟨c.keep,c.old,cnt,hz,Ls,none,0,0,0,0,0,p.1.1,p.1.2.1,p.1.2.2.1,p.1.2.2.2⟩,p.2)) from by
    rw [HQ9.out,h])
   obtain ⟨i,rfl⟩:∃ m,m=i:=⟨_,rfl⟩
   clear hW8 hb8 qD hD hD0 hDR S F HB HQ9 u0 x0 x1 hCl hLl hTl t5 t6 t7
   go_upto_region 11 with fail
   go_loopw [99] (fun t99 wy=>∃ (j:Nat) (c2:CL) (l2:List Nat) (ow2:Nat→Nat),t99=.int .i64 (j:Nat)∧j≤3∧Hid (tabsN (mostI c1.old) (neOf c1.recs) c1.horizon (hiOf c1.recs) c1 l j=some (c2,l2))∧Hid (LSt B R T c2 ow2 l2 wy)∧Hid (FrR R ow ow2 w wy)∧Hid (CB C L R T ow2 wy)∧Hid (DB D R c1 ow2 wy)) (fun t99 _=>3-(intOf t99).toNat)
   case atStart=>exact ⟨0,c1,l,ow',rfl,Nat.zero_le _,hid rfl,S8,F8,B8,D8⟩
   case round =>
    obtain ⟨j,c2,l2,ow2,rfl,hj,HT,S,F,HB,HD⟩:=hrel
    clear S8 F8 B8 D8
    obtain ⟨p1,p2,p3,p4,p5,p6,p7,p8⟩:=tabsN_keeps HT.out
    obtain ⟨u0,x0,x1,hCl,hLl⟩:=HB.out.bounds
    by_cases hjl:j<3
    ·have hjl':(j:Int)<3:=by omega
     have kD:=tadr_cell HD.out.d hjl
     obtain ⟨ta,hta⟩:∃ t,t=c1.tadr j:=⟨_,rfl⟩
     rw [←hta] at kD
     have HK:=hid (show Calls Tryz.prog 76 #[.agg #[.pointer (some ⟨R,0,none⟩),.pointer (some ⟨T,0,none⟩)],.pointer (some ⟨ta,0,none⟩)] wr (KeysRet B R T c2 ow2 j (ldKeys (mostI c1.old) (neOf c1.recs) c1.horizon (hiOf c1.recs) (c2.tab j) l2) wr) from by
      have:=keys_any S.out (by rw [p1];exact HL40.out) j
      rw [p4,p1,p2,p6,←hta] at this
      exact this)
     have HKN:=hid fun (h:ldKeys (mostI c1.old) (neOf c1.recs) c1.horizon (hiOf c1.recs) (c2.tab j) l2=none)=>(show q=none from HTN.out (j+1) hjl (by
      show (match tabsN (mostI c1.old) (neOf c1.recs) c1.horizon (hiOf c1.recs) c1 l j with
       | none=>none
       | some (c',r)=>(ldKeys (mostI c1.old) (neOf c1.recs) c1.horizon (hiOf c1.recs) (c'.tab j) r).map fun (p:List ItV×List Nat)=>(c'.setTab j p.1,p.2))=none
      rw [HT.out];simp only;rw [h];rfl))
     have HKY:=hid fun (its:List ItV) (r:List Nat) (h:ldKeys (mostI c1.old) (neOf c1.recs) c1.horizon (hiOf c1.recs) (c2.tab j) l2=some (its,r))=>(show tabsN (mostI c1.old) (neOf c1.recs) c1.horizon (hiOf c1.recs) c1 l (j+1)=some (c2.setTab j its,r) from by
      show (match tabsN (mostI c1.old) (neOf c1.recs) c1.horizon (hiOf c1.recs) c1 l j with
       | none=>none
       | some (c',r)=>(ldKeys (mostI c1.old) (neOf c1.recs) c1.horizon (hiOf c1.recs) (c'.tab j) r).map fun (p:List ItV×List Nat)=>(c'.setTab j p.1,p.2))=_
      rw [HT.out];simp only;rw [h];rfl)
     clear hta p1 p2 p3 p4 p5 p6 p7 p8 S
     go_upto_region 13 with fail
     go_wp2_with fail
     refine HK.out.mono ?_
     intro e w12 h12
     cases hd:ldKeys (mostI c1.old) (neOf c1.recs) c1.horizon (hiOf c1.recs) (c2.tab j) l2 with
     | none =>
      obtain rfl:=HKN.out hd
      rw [hd] at h12
      obtain ⟨rfl,ow3,f3⟩:=h12
      have HF:=hid (F.out.trans f3)
      go_wp2_with fail
      exact ⟨rfl,rfl,_,HF.out⟩
     | some p =>
      obtain ⟨its,r⟩:=p
      rw [hd] at h12
      obtain ⟨rfl,ow3,s3,f3⟩:=h12
      have HY:=hid (HKY.out its r hd)
      have S3:=hid s3
      have F3:=hid (F.out.trans f3)
      have B3:=hid (HB.out.step f3)
      have D3:=hid (HD.out.step f3)
      clear hd s3 f3 F HB HD HK u0 x0 x1 hCl hLl kD
      go_wp2_with fail
      go_roundw
      case rel=>exact ⟨j+1,c2.setTab j its,r,ow3,by go_num,by omega,HY,S3,F3,B3,D3⟩
      case measure=>simp [intOf];omega
    ·obtain rfl:j=3:=by omega
     have HQ11:=hid (HQ10.out c2 l2 HT.out)
     have HRG:=hid fun (W:World) (hb:Below wr.heap.size wr W)=>(show Calls Tryz.prog 77 #[.agg #[.pointer (some ⟨R,0,none⟩),.pointer (some ⟨T,0,none⟩)],.pointer (some ⟨c2.t4,0,none⟩)] W (SpsRet B R T c2 ow2 (ldSps (mostI c1.old) (neOf c1.recs) c1.horizon (hiOf c1.recs) c1.i4 l2) W) from by
      have:=ranges_any (S.out.below hb) (by rw [p1];exact HL40.out)
      rw [p4,p1,p2,p7] at this
      exact this)
     have HNC:=hid fun (its:List Q.ItV)=>(show CL.n { c2 with i4:=its }=⟨c.keep,c.old,cnt,hz,Ls,none,0,0,0,0,0,c2.i1,c2.i2,c2.i3,its⟩ from by
      obtain ⟨k1,k2,k3,k4,k5⟩:=HKK.out
      unfold CL.n
      simp only
      rw [p1,p2,p3,p4,p5,k1,k2,k3,k4,k5])
     have hTr:=S.out.c.box
     have t8:wr.cell? ⟨T,8,none⟩=some (.pointer (some ⟨c2.t4,0,none⟩)):=cell_row hTr 8
     have hTl:=(Array.getElem?_eq_some_iff.1 hTr).1
     obtain ⟨t4,ht4⟩:∃ t,t=c2.t4:=⟨_,rfl⟩
     rw [←ht4] at t8 HRG
     clear hTr p1 p2 p3 p4 p5 p6 p7 p8 ht4 S HD
     go_upto_region 15 with fail
     (refine wp_region_ext_tail 5 (by kernel_rfl) (by kernel_rfl) (by kernel_rfl) ?_;simp only [List.take_succ_cons,List.take_zero,List.drop_succ_cons,List.drop_zero];(repeat (go_big_quiet_step (first|fail)));refine mX ?_;intro w12 hb12 hc12 hf12 hz12;intros)
     have HR12:=hid (HRG.out w12 hb12)
     have F12:=hid (F.out.trans (FrR.of_below ow2 hb12))
     clear hb12 hc12 hf12 hz12 F HB HRG u0 x0 x1 hCl hLl hTl t8
     go_wp2_with fail
     refine HR12.out.mono ?_
     intro e w13 h13
     cases hd:ldSps (mostI c1.old) (neOf c1.recs) c1.horizon (hiOf c1.recs) c1.i4 l2 with
     | none =>
      obtain rfl:q=none:=by rw [HQ11.out,hd];rfl
      rw [hd] at h13
      obtain ⟨rfl,ow3,f3⟩:=h13
      have HF:=hid (F12.out.trans f3)
      go_wp2_with fail
      exact ⟨rfl,rfl,_,HF.out⟩
     | some p =>
      obtain ⟨its,r⟩:=p
      obtain rfl:q=some (⟨c.keep,c.old,cnt,hz,Ls,none,0,0,0,0,0,c2.i1,c2.i2,c2.i3,its⟩,r):=by rw [HQ11.out,hd];rfl
      rw [hd] at h13
      obtain ⟨rfl,ow3,s3,f3⟩:=h13
      have HF:=hid (show LoadRet1 B R T ow (some (⟨c.keep,c.old,cnt,hz,Ls,none,0,0,0,0,0,c2.i1,c2.i2,c2.i3,its⟩,r)) w (.returned (.tuple #[])) w13 from ⟨rfl,_,ow3,s3,F12.out.trans f3,HNC.out its⟩)
      clear hd s3 f3
      go_wp2_with fail
      go_end0
      exact HF.out
end Go.Proofs.YtfbachckdadhoaaGreat.C
namespace Go.Proofs.YtfbachckdadhoaaGreat.C
set_option linter.unusedVariables false
open Go.RowKit Fl
open Go.Proofs.YtfbachckdadhoaaGreat.P (RAt ReadRet wrongP getNum getKey getCount BelowB set1R box1 read1_caught read1_idle)
set_option linter.unusedSimpArgs false

def LoadRet2 (B T:Nat) (ow:Nat→Nat) (q:Option CL) (w:World) (e:Ending) (w':World):Prop:=match q with
 | none=>e=.returned (.int .i64 30)∧∃ ow',Fr ow ow' w w'
 | some c0=>e=.returned (.int .i64 0)∧∃ (c':CL) (ow':Nat→Nat),CAt B T c' ow' w'∧Fr ow ow' w w'∧CL.n c'=c0
theorem fin_load {R:Nat} {ow ow':Nat→Nat} {w w0 w1:World} (h0:Below w.heap.size w w0) (h1:FrR R ow ow' w0 w1) (hR:w.heap.size≤R):Fr ow ow' w w1 :=
 ⟨h1.os.trans h0.os,h1.tape.trans h0.tape,h1.output.trans h0.output,Nat.le_trans h0.size h1.size,fun k hk h=>(h1.block k (Nat.lt_of_lt_of_le hk h0.size) h (by omega)).trans (h0.block k hk),fun k hk=>h1.own k (Nat.lt_of_lt_of_le hk h0.size)⟩
theorem Fr.touch {Z:Nat} {o1 ow:Nat→Nat} {w0 w w':World} (h:Fr o1 ow w0 w) (hg:w.grownBy w' (some Z)) (hZ:w0.heap.size≤Z):Fr o1 ow w0 w' :=
 ⟨hg.os.trans h.os,hg.tape.trans h.tape,hg.output.trans h.output,Nat.le_trans h.size hg.size,fun k hk h0=>(hg.block k (Nat.lt_of_lt_of_le hk h.size) fun e=>by have:=Option.some.inj e;omega).trans (h.block k hk h0),h.own⟩
theorem load_open {B T:Nat} {c0:CL} {ow:Nat→Nat} {a:Option Addr} {c:Nat} {bs:List Nat} {w:World} (hc:CAt B T c0 ow w) (hb:BelowB B w a c bs) :
  ∀ w0,w0=(w.alloc (.cells #[.int .i64 0] 39)).alloc (.cells #[.slice a bs.length c] 200) →
   LSt B (w.heap.size+1) T c0 ow bs w0∧Below w.heap.size w w0∧w0.heap[w.heap.size]? = some (.cells #[.int .i64 0] 39 (0,0))∧ow w.heap.size=0:=by
 intro w0 h0
 have hA:Below w.heap.size w w0:=by rw [h0];exact below_auto
 obtain ⟨e1,e2⟩:=two_alloc w (.cells #[.int .i64 0] 39 (0,0)) (.cells #[.slice a bs.length c] 200 (0,0))
 rw [←h0] at e1 e2
 have hBw:=hc.hB
 have z:∀ k,w.heap.size≤k→ow k=0:=fun k hk=>Classical.byContradiction fun h=>by have:=(hc.low k h).2;omega
 refine ⟨⟨hc.below hA,⟨a,c,e2,hb.cap,?_,hb.lt⟩,z _ (by omega),by omega⟩,hA,e1,z _ (Nat.le_refl _)⟩
 rcases hb.row with h|⟨b,o,h1,h2,h3⟩
 ·exact .inl h
 ·exact .inr ⟨b,o,h1,h2,by omega,fun i hi=>(hA.cell (p:=⟨b,o+i,none⟩) (by show b<_;omega)).trans (h3 i hi)⟩
set_option maxHeartbeats 1000000 in
set_option maxRecDepth 100000 in
theorem read_load {B T C:Nat} {c0:CL} {ow:Nat→Nat} (a:Option Addr) (c:Nat) (bs:List Nat) (w:World) (hc:CAt B T c0 ow w) (hb:BelowB B w a c bs) (hC:w.heap[C]? = some (.cells #[.pointer (some ⟨T,0,none⟩)] 23 (0,0))) (hC0:ow C=0) (hf:c0.recs=[]∧c0.i1=[]∧c0.i2=[]∧c0.i3=[]∧c0.i4=[]) :
  Calls Tryz.prog 70 #[.slice a bs.length c,.func (.func 71) #[] #[.pointer (some ⟨C,0,none⟩)]] w (LoadRet2 B T ow (ldAll c0.keep c0.old bs) w):=by
 have hmf:∀ (fn:Fn) (first cap:Array Value) (w:World),(Instr.makeFunc fn first cap).run Tryz.prog w=.ok (.func fn first cap) w:=fun _ _ _ _=>rfl
 have hCl:C<w.heap.size:=(Array.getElem?_eq_some_iff.1 hC).1
 have hBw:=hc.hB
 generalize hQ:ldAll c0.keep c0.old bs=q
 have HQ:=hid hQ
 clear hQ
 go_enter_defers Tryz.func70,Tryz.ntmps70
 go_wp2_with fail
 generalize hW0:World.alloc _ _=w0 at *
 obtain ⟨hD,hA,e1,hE0⟩:=load_open hc hb w0 hW0.symm
 clear hW0 hb
 refine (load1_any hD ((hA.block C hCl).trans hC) hC0 (by omega) hf).mono ?_
 intro e w1 h1
 have hz0:=(Array.getElem?_eq_some_iff.1 e1).1
 cases hd:ldBody c0.keep c0.old bs with
 | none =>
  have hq:q=none:=by rw [←HQ.out];unfold ldAll;rw [hd];rfl
  subst hq
  rw [hd] at h1
  obtain ⟨rfl,ow1,hf1⟩:=h1
  have e2:=(hf1.block _ hz0 hE0 (by omega)).trans e1
  obtain ⟨h5,h6⟩:=set1R (i:=0) e2 (.int .i64 30)
  have k5:=box1 h5
  have HR:Hid (∃ ow',Fr ow ow' w ((w1.setCell ⟨w.heap.size,0,none⟩ (.int .i64 30)).alloc (.cells #[.int .i64 30] 202))):=hid ⟨_,((fin_load hA hf1 (by omega)).touch h6 (Nat.le_refl _)).trans (Fr.of_below ow1 (by exact below_auto))⟩
  have k6:((w1.setCell ⟨w.heap.size,0,none⟩ (.int .i64 30)).alloc (.cells #[.int .i64 30] 202)).cell? ⟨w.heap.size,0,none⟩=some (.int .i64 30) :=
   box1 (((World.grownBy_alloc _ _ none).block _ (Array.getElem?_eq_some_iff.1 h5).1 (by simp)).trans h5)
  clear hd h5 h6 k5 hf1 e1 hA hD hc hf hC
  go_wp2_with fail
  refine leaves_cons (f:=126) (args:=#[.pointer (some ⟨w.heap.size,0,none⟩)]) (by simp) (by simp [go_sem]) ?_
  refine (read1_caught _ w1 _ e2).mono ?_
  rintro e u' w2 ⟨rfl,hu,rfl⟩
  show Leaves _ _ _ _ [] (settle u') _
  rw [hu]
  exact ⟨.int .i64 30,by simp [results,Tryz.results70,go_sem,k6],rfl,HR.out⟩
 | some p =>
  obtain ⟨t,r⟩:=p
  rw [hd] at h1
  obtain ⟨rfl,c',ow1,hs1,hf1,hn1⟩:=h1
  have e2:=(hf1.block _ hz0 hE0 (by omega)).trans e1
  have hqr:q=if r=[] then some t else none:=by rw [←HQ.out];unfold ldAll;rw [hd];rfl
  obtain ⟨a2,c2,r1,r2,_⟩:=hs1.r
  have k2:=box1 r1
  have f2:w1.frozen? ⟨w.heap.size,0,none⟩=false:=by simp [World.frozen?,e2]
  have hFr:=fin_load hA hf1 (by omega)
  have hE1:ow1 w.heap.size=0:=(hf1.own _ hz0).trans hE0
  cases r with
  | nil =>
   rw [if_pos rfl] at hqr
   subst hqr
   obtain ⟨h5,h6⟩:=set1R (i:=0) e2 (.int .i64 0)
   have k5:=box1 h5
   have HR:Hid (LoadRet2 B T ow (some t) w (.returned (.int .i64 0)) (w1.setCell ⟨w.heap.size,0,none⟩ (.int .i64 0))):=hid ⟨rfl,c',ow1,(hs1.touch h6 hE1 (by omega) (by omega)).c,hFr.touch h6 (Nat.le_refl _),hn1⟩
   have k0:=box1 e2
   clear hd h5 h6 hf1 e1 hA hD hs1 hFr r1 e2 hc hf hC hn1 HQ
   go_wp2_with fail
   refine leaves_cons (f:=126) (args:=#[.pointer (some ⟨w.heap.size,0,none⟩)]) (by simp) (by simp [go_sem]) ?_
   refine (read1_idle _ _).mono ?_
   rintro e u' w2 ⟨rfl,rfl,rfl⟩
   show Leaves _ _ _ _ [] .returning _
   exact ⟨.int .i64 0,by simp [results,Tryz.results70,go_sem,k5],HR.out⟩
  | cons y r =>
   rw [if_neg (by simp)] at hqr
   subst hqr
   obtain ⟨h5,h6⟩:=set1R (i:=0) e2 (.int .i64 30)
   have k5:=box1 h5
   have hl:0<((y :: r).length:Int):=by rw [List.length_cons];omega
   have HR:Hid (LoadRet2 B T ow none w (.returned (.int .i64 30)) (w1.setCell ⟨w.heap.size,0,none⟩ (.int .i64 30))):=hid ⟨rfl,ow1,hFr.touch h6 (Nat.le_refl _)⟩
   have k0:=box1 e2
   clear hd h5 h6 hf1 e1 hA hD hs1 hFr r1 e2 hc hf hC hn1 HQ
   generalize (y :: r).length=m at *
   go_wp2_with fail
   refine leaves_cons (f:=126) (args:=#[.pointer (some ⟨w.heap.size,0,none⟩)]) (by simp) (by simp [go_sem]) ?_
   refine (read1_idle _ _).mono ?_
   rintro e u' w2 ⟨rfl,rfl,rfl⟩
   show Leaves _ _ _ _ [] .returning _
   exact ⟨.int .i64 30,by simp [results,Tryz.results70,go_sem,k5],HR.out⟩
def LoadRet (q:Option CL) (w:World) (e:Ending) (w':World):Prop:=match q with
 | none=>e=.returned (.tuple #[.pointer none,.int .i64 30])∧Below w.heap.size w w'
 | some c0=>∃ (B T:Nat) (c':CL) (ow':Nat→Nat),e=.returned (.tuple #[.pointer (some ⟨T,0,none⟩),.int .i64 0])∧w.heap.size≤B∧CAt B T c' ow' w'∧Below w.heap.size w w'∧CL.n c'=c0
set_option maxHeartbeats 1000000 in
set_option maxRecDepth 100000 in
theorem load_any (keep old:Int) (a:Option Addr) (c:Nat) (bs:List Nat) (w:World) (h1:-9223372036854775808≤old∧old≤9223372036854775807) (hb:BelowB w.heap.size w a c bs) :
  Calls Tryz.prog 29 #[.agg #[.int .i64 keep,.int .i64 old],.slice a bs.length c] w (LoadRet (ldAll (min (max keep 1) 32) old bs) w):=by
 have HB:=hid hb
 obtain ⟨q,hq⟩:∃ q,ldAll (min (max keep 1) 32) old bs=q:=⟨_,rfl⟩
 rw [hq]
 have HQ:=hid hq
 clear hb hq
 go_enter Tryz.func29,Tryz.ntmps29
 go_upto_region 1 with fail
 generalize hW1:World.alloc w _=w1
 have hb1:Below w.heap.size w w1:=by rw [←hW1];exact below_auto
 have q1:w1.heap[w.heap.size]? = some (.cells #[.int .i64 keep,.int .i64 old] 26 (0,0)):=by rw [←hW1];exact heap_alloc_new w _
 obtain ⟨k0,k1,-,-⟩:=row2 q1
 clear hW1 q1
 go_wp2_with fail
 refine (new_any keep old w1 h1).mono ?_
 rintro e w2 ⟨T,t1,t2,t3,t4,ow,rfl,hC,hb2⟩
 have HC:=hid hC
 have HB2:=hid (hb1.trans (hb2.mono hb1.size))
 clear k0 k1 hC hb2
 go_upto_region 2 with fail
 generalize hW3:World.alloc w2 _=w3
 have hb3:Below w2.heap.size w2 w3:=by rw [←hW3];exact below_auto
 have q3:w3.heap[w2.heap.size]? = some (.cells #[.pointer (some ⟨T,0,none⟩)] 23 (0,0)):=by rw [←hW3];exact heap_alloc_new w2 _
 obtain ⟨C,hCq⟩:∃ C,C=w2.heap.size:=⟨_,rfl⟩
 have hC0:ow C=0:=Classical.byContradiction fun h0=>by have:=(HC.out.low C h0).2;omega
 rw [←hCq] at q3 ⊢
 have hz1:=hb1.size
 have HB3:=hid (HB2.out.trans (hb3.mono HB2.out.size))
 have hz3:w.heap.size≤C:=by have:=HB2.out.size;omega
 have S3:=HC.out.below hb3
 have hbb:BelowB w1.heap.size w3 a c bs:=by
  refine ⟨?_,HB.out.lt,HB.out.cap⟩
  rcases HB.out.row with h|⟨b,o,e1,e2,e3⟩
  ·exact .inl h
  ·exact .inr ⟨b,o,e1,by omega,fun i hi=>(HB3.out.cell (p:=⟨b,o+i,none⟩) e2).trans (e3 i hi)⟩
 have HL:=hid (show Calls Tryz.prog 70 #[.slice a bs.length c,.func (.func 71) #[] #[.pointer (some ⟨C,0,none⟩)]] w3 (LoadRet2 w1.heap.size T ow q w3) from by
  have:=read_load (c0:=newC (min (max keep 1) 32) old t1 t2 t3 t4) a c bs w3 S3 hbb q3 hC0 ⟨rfl,rfl,rfl,rfl,rfl⟩
  rw [show ldAll (newC (min (max keep 1) 32) old t1 t2 t3 t4).keep (newC (min (max keep 1) 32) old t1 t2 t3 t4).old bs=q from HQ.out] at this
  exact this)
 have HLW:=hid fun (k:Nat) (hk:k<w.heap.size)=>(show ow k=0 from Classical.byContradiction fun h0=>by have:=(S3.low k h0).1;omega)
 have HQ3:=hid q3
 have hCl:=(Array.getElem?_eq_some_iff.1 q3).1
 have HBW:=hid fun (ow':Nat→Nat) (W:World) (f:Fr ow ow' w3 W)=>(show Below w.heap.size w W from ⟨f.os.trans HB3.out.os,f.tape.trans HB3.out.tape,f.output.trans HB3.out.output,Nat.le_trans HB3.out.size f.size,fun k hk=>(f.block k (Nat.lt_of_lt_of_le hk HB3.out.size) (HLW.out k hk)).trans (HB3.out.block k hk)⟩)
 have hmf:∀ (fn:Fn) (first cap:Array Value) (w:World),(Instr.makeFunc fn first cap).run Tryz.prog w=.ok (.func fn first cap) w:=fun _ _ _ _=>rfl
 clear hW3 hb3 q3 hCq S3 hbb HC HB2 hb1 HQ
 generalize bs.length=m at *
 go_wp2_with fail
 refine HL.out.mono ?_
 intro e w4 h4
 cases q with
 | none =>
  obtain ⟨rfl,ow4,f4⟩:=h4
  have HF:=hid (show LoadRet none w (.returned (.tuple #[.pointer none,.int .i64 30])) w4 from ⟨rfl,HBW.out _ _ f4⟩)
  clear f4
  go_wp2_with fail
  exact bodyPost_ret (v:=.tuple #[.pointer none,.int .i64 30]) (by simp [results,Tryz.results29,go_sem, *]) rfl HF.out
 | some c0 =>
  obtain ⟨rfl,c',ow4,hc4,f4,hn4⟩:=h4
  have q4:=(f4.block C hCl hC0).trans HQ3.out
  have k4:w4.cell? ⟨C,0,none⟩=some (.pointer (some ⟨T,0,none⟩)):=cell_row q4 0
  have HF:=hid (show LoadRet (some c0) w (.returned (.tuple #[.pointer (some ⟨T,0,none⟩),.int .i64 0])) w4 from ⟨_,T,c',ow4,rfl,hz1,hc4,HBW.out _ _ f4,hn4⟩)
  clear f4 hc4 hn4 q4
  go_wp2_with fail
  exact bodyPost_ret (v:=.tuple #[.pointer (some ⟨T,0,none⟩),.int .i64 0]) (by simp [results,Tryz.results29,go_sem, *]) rfl HF.out
end Go.Proofs.YtfbachckdadhoaaGreat.C
namespace Go.Proofs.YtfbachckdadhoaaGreat.C
set_option linter.unusedVariables false
open Go.RowKit Fl
open Go.Proofs.YtfbachckdadhoaaGreat.P (numB keyB codeN encO NumD KeyD getNum getKey getCount dec ofD toD)
set_option linter.unusedSimpArgs false

theorem put_last {L:List ItV} {x:ItV} {most:Int} (hr:rises (L++[x])) (hl:(L.length:Int)<most) (hn:1≤x.n∧x.n≤1099511627776):putI L most x.k.bits x.n=(0,L++[x]):=by
 have hlt:∀ y∈L,y.k.v<x.k.v:=fun y hy=>(List.pairwise_append.1 hr).2.2 y hy x (List.mem_singleton.2 rfl)
 have hp:plcI L x.k.bits=L.length:=by
  unfold plcI
  refine List.findIdx_eq_length_of_false fun y hy=>?_
  rw [codeOf_key,codeOf_key]
  simp [(kcode_lt _ _).2 (hlt y hy)]
 have hb:plcB L x.k.bits=false:=by unfold plcB;rw [hp,List.getElem?_eq_none (Nat.le_refl _)]
 unfold putI
 rw [if_neg (by rw [x.k.bits_nan];simp),if_neg (by omega),hb,if_neg (by simp),if_neg (by omega),hp,List.take_length,List.drop_length,x.k.kof_bits,List.append_nil]
theorem keyR_self (k:RK):Q.keyR k.rg=k:=by
 unfold RK.rg Q.keyR
 simp only
 rw [dif_pos k.le]
theorem putQ_last {L:List Q.ItV} {x:Q.ItV} {most:Int} (hr:Q.rises (L++[x])) (hl:(L.length:Int)<most) (hn:1≤x.n∧x.n≤1099511627776):Q.putI L most x.k.rg x.n=(0,L++[x]):=by
 have hlt:∀ y∈L,codeR y.k.rg<codeR x.k.rg:=fun y hy=>(List.pairwise_append.1 hr).2.2 y hy x (List.mem_singleton.2 rfl)
 have hp:Q.plcI L x.k.rg=L.length:=by
  unfold Q.plcI
  refine List.findIdx_eq_length_of_false fun y hy=>?_
  simp [hlt y hy]
 have hb:Q.plcB L x.k.rg=false:=by unfold Q.plcB;rw [hp,List.getElem?_eq_none (Nat.le_refl _)]
 unfold Q.putI
 rw [if_neg (by unfold RK.rg;simp),if_neg (by omega),hb,if_neg (by simp),if_neg (by omega),hp,List.take_length,List.drop_length,keyR_self,List.append_nil]
theorem numD_of {n:Int} (h:0≤n∧n≤1099511627776):NumD n:=⟨by omega,by omega⟩
theorem recs_fwd {a:Int} {L:List RecV} (h:∀ i (hi:i<L.length),(L[i]).num=a+i∧(∃ w,(L[i]).s.At w)∧K.SubV.check (L[i]).s=0∧(L[i]).s.s2<(L[i]).num):∀ (i:Nat) (_:i≤L.length) (r:List Nat),ldRecs a i ((L.take i).flatMap recB++r)=some ((L.take i).map RecV.n,r)
 | 0,_,r=>by simp [ldRecs]
 | i+1,hi,r=>by
  have hx:L[i]? = some L[i]:=List.getElem?_eq_getElem hi
  obtain ⟨h1,⟨w,h2⟩,h3,h4⟩:=h i hi
  rw [flat_snoc hx,List.append_assoc]
  show (match ldRecs a i _ with
   | none=>none
   | some (L,r)=>match ldDone (a+i) r with
    | none=>none
    | some (x,r')=>some (L++[x],r'))=_
  rw [recs_fwd h i (by omega) _]
  simp only
  rw [←h1,done_fwd h2 h3 h4]
  simp only
  rw [List.take_add_one,hx,List.map_append];rfl
structure KOk (most:Int) (ne:Bool) (lo hi:Int) (its:List ItV):Prop where
 up:rises its
 le:(its.length:Int)≤most
 le64:its.length≤64
 old:∀ x∈its,ne=true∧lo<x.n∧x.n<hi
 lo0:0≤lo
 hi0:hi≤1099511627776
theorem keysN_fwd {most:Int} {ne:Bool} {lo hi:Int} {its:List ItV} (h:KOk most ne lo hi its):∀ (i:Nat) (_:i≤its.length) (r:List Nat),∃ la,ldKeysN most ne lo hi [] ((its.take i).flatMap itB++r) i=some ⟨la,its.take i,r⟩∧∀ j (hj:j<its.length),i=j+1→la=(its[j]).k.bits
 | 0,_,r=>⟨0,by simp [ldKeysN],fun j hj e=>by omega⟩
 | i+1,hi',r=>by
  have hx:its[i]? = some its[i]:=List.getElem?_eq_getElem hi'
  have htk:its.take (i+1)=its.take i++[its[i]]:=by rw [List.take_add_one,hx];rfl
  obtain ⟨la,h1,h2⟩:=keysN_fwd h i (by omega) (itB its[i]++r)
  obtain ⟨o1,o2,o3⟩:=h.old its[i] (List.getElem_mem hi')
  have hlo:=h.lo0;have hhi:=h.hi0
  refine ⟨(its[i]).k.bits,?_,fun j hj e=>by obtain rfl:i=j:=(by omega);rfl⟩
  rw [flat_snoc hx,List.append_assoc]
  show (match ldKeysN most ne lo hi [] _ i with
   | none=>none
   | some s=>ldKey most ne lo hi i s)=_
  rw [h1]
  simp only
  unfold ldKey itB
  simp only [List.append_assoc]
  rw [P.key_good.fwd _ _ (show KeyD (its[i]).k.bits from cbits_key _)]
  simp only
  have hc:i=0∨flt la (its[i]).k.bits=true:=by
   rcases Nat.eq_zero_or_pos i with h0|h0
   ·exact .inl h0
   ·refine .inr ?_
    rw [h2 (i-1) (by omega) (by omega),flt_kk]
    exact decide_eq_true (List.pairwise_iff_getElem.1 h.up (i-1) i (by omega) hi' (by omega))
  rw [if_pos hc,old_fwd o1 o2 o3 (numD_of (by omega))]
  simp only
  have hput:=put_last (L:=its.take i) (x:=its[i]) (most:=most) (by rw [←htk];exact List.Pairwise.sublist (List.take_sublist _ _) h.up) (by rw [List.length_take];have:=h.le;omega) (by omega)
  rw [hput]
  simp only
  rw [if_pos trivial,htk]
theorem keys_fwd {most:Int} {ne:Bool} {lo hi:Int} {its:List ItV} (h:KOk most ne lo hi its) (r:List Nat):ldKeys most ne lo hi [] (itsB its++r)=some (its,r):=by
 unfold ldKeys itsB
 rw [List.append_assoc,count_fwd h.le64 (by decide)]
 simp only
 obtain ⟨la,h1,_⟩:=keysN_fwd h its.length (Nat.le_refl _) r
 rw [List.take_length] at h1
 rw [h1];rfl
structure QOk (most:Int) (ne:Bool) (lo hi:Int) (its:List Q.ItV):Prop where
 up:Q.rises its
 le:(its.length:Int)≤most
 le64:its.length≤64
 old:∀ x∈its,ne=true∧lo<x.n∧x.n<hi
 lo0:0≤lo
 hi0:hi≤1099511627776
theorem spsN_fwd {most:Int} {ne:Bool} {lo hi:Int} {its:List Q.ItV} (h:QOk most ne lo hi its):∀ (i:Nat) (_:i≤its.length) (r:List Nat),∃ la,ldSpsN most ne lo hi [] ((its.take i).flatMap itqB++r) i=some ⟨la,its.take i,r⟩∧∀ j (hj:j<its.length),i=j+1→la=(its[j]).k.rg
 | 0,_,r=>⟨_,by simp [ldSpsN];rfl,fun j hj e=>by omega⟩
 | i+1,hi',r=>by
  have hx:its[i]? = some its[i]:=List.getElem?_eq_getElem hi'
  have htk:its.take (i+1)=its.take i++[its[i]]:=by rw [List.take_add_one,hx];rfl
  obtain ⟨la,h1,h2⟩:=spsN_fwd h i (by omega) (itqB its[i]++r)
  obtain ⟨o1,o2,o3⟩:=h.old its[i] (List.getElem_mem hi')
  have hlo:=h.lo0;have hhi:=h.hi0
  refine ⟨(its[i]).k.rg,?_,fun j hj e=>by obtain rfl:i=j:=(by omega);rfl⟩
  rw [flat_snoc hx,List.append_assoc]
  show (match ldSpsN most ne lo hi [] _ i with
   | none=>none
   | some s=>ldSp most ne lo hi i s)=_
  rw [h1]
  simp only
  unfold ldSp itqB
  simp only [List.append_assoc]
  rw [P.key_good.fwd _ _ (show KeyD (its[i]).k.lo.bits from cbits_key _)]
  simp only
  rw [P.key_good.fwd _ _ (show KeyD (its[i]).k.hi.bits from cbits_key _)]
  simp only
  have hcn:canonS (its[i]).k.lo.bits (its[i]).k.hi.bits false false=(its[i]).k.rg:=canonS_canon _ _ (its[i]).k.le
  rw [hcn]
  have hc:i=0∨0<cmpR (its[i]).k.rg la:=by
   rcases Nat.eq_zero_or_pos i with h0|h0
   ·exact .inl h0
   ·refine .inr ?_
    rw [h2 (i-1) (by omega) (by omega),cmpR_code]
    have:=List.pairwise_iff_getElem.1 h.up (i-1) i (by omega) hi' (by omega)
    unfold cmpI
    rw [if_neg (by omega),if_pos (by omega)];decide
  rw [if_pos hc,old_fwd o1 o2 o3 (numD_of (by omega))]
  simp only
  have hput:=putQ_last (L:=its.take i) (x:=its[i]) (most:=most) (by rw [←htk];exact List.Pairwise.sublist (List.take_sublist _ _) h.up) (by rw [List.length_take];have:=h.le;omega) (by omega)
  rw [hput]
  simp only
  rw [if_pos trivial,htk]
theorem sps_fwd {most:Int} {ne:Bool} {lo hi:Int} {its:List Q.ItV} (h:QOk most ne lo hi its) (r:List Nat):ldSps most ne lo hi [] (itqsB its++r)=some (its,r):=by
 unfold ldSps itqsB
 rw [List.append_assoc,count_fwd h.le64 (by decide)]
 simp only
 obtain ⟨la,h1,_⟩:=spsN_fwd h its.length (Nat.le_refl _) r
 rw [List.take_length] at h1
 rw [h1];rfl
structure Ldb (c:CL):Prop where
 keep:(c.recs.length:Int)≤c.keep∧c.keep≤32
 cnt:0≤c.horizon∧c.horizon≤c.count∧c.count≤1099511627776
 few:(c.recs.length:Int)≤c.count-c.horizon
 recs:∀ i (hi:i<c.recs.length),(c.recs[i]).num=c.count-c.recs.length+1+i∧(∃ w,(c.recs[i]).s.At w)∧K.SubV.check (c.recs[i]).s=0∧(c.recs[i]).s.s2<(c.recs[i]).num
 k1:KOk (mostI c.old) (neOf c.recs) c.horizon (hiOf c.recs) c.i1
 k2:KOk (mostI c.old) (neOf c.recs) c.horizon (hiOf c.recs) c.i2
 k3:KOk (mostI c.old) (neOf c.recs) c.horizon (hiOf c.recs) c.i3
 k4:QOk (mostI c.old) (neOf c.recs) c.horizon (hiOf c.recs) c.i4
theorem ne_map (L:List RecV):neOf (L.map RecV.n)=neOf L∧hiOf (L.map RecV.n)=hiOf L:=by
 cases L with
 | nil=>exact ⟨rfl,rfl⟩
 | cons x L=>exact ⟨rfl,rfl⟩
theorem ldAll_fwd {c:CL} (h:Ldb c):ldAll c.keep c.old (bytesC c)=some (CL.n c):=by
 have hc:=h.cnt;have hk:=h.keep;have hf:=h.few
 have hb:ldBody c.keep c.old (bytesC c)=some (CL.n c,[]):=by
  unfold ldBody bytesC headB
  simp only [List.append_assoc]
  rw [P.num_good.fwd _ _ (numD_of (by omega))]
  simp only
  rw [P.num_good.fwd _ _ (numD_of (by omega))]
  simp only
  rw [if_pos hc,count_fwd (show c.recs.length≤c.keep.toNat by omega) (by omega)]
  simp only
  rw [if_pos hf]
  have h1:=recs_fwd h.recs c.recs.length (Nat.le_refl _) (itsB c.i1++(itsB c.i2++(itsB c.i3++itqsB c.i4)))
  rw [List.take_length] at h1
  rw [h1]
  simp only
  unfold ldTabs
  rw [(ne_map c.recs).1,(ne_map c.recs).2,keys_fwd h.k1]
  simp only [Option.bind_some]
  rw [keys_fwd h.k2]
  simp only [Option.bind_some]
  rw [keys_fwd h.k3]
  simp only [Option.bind_some]
  have h4:=sps_fwd h.k4 []
  rw [List.append_nil] at h4
  rw [h4]
  rfl
 unfold ldAll
 rw [hb];rfl
structure Fold (c:CL) (F:List RecV):Prop where
 tabs:Tabs F c.i1 c.i2 c.i3 c.i4
 old:∀ r∈F,c.horizon<r.num∧r.num≤c.count-c.recs.length
 ne:F≠[]→c.recs≠[]
theorem Fold.new (kp m:Int) (t1 t2 t3 t4:Nat):Fold (CL.n (newC kp m t1 t2 t3 t4)) []:=⟨Tabs.nil _,fun _ h=>(by cases h),fun h=>absurd rfl h⟩
theorem Fold.commit {c:CL} {ds:List RecV} {m:Nat} (h:Inv c ds m) {F:List RecV} (hF:Fold c F) (y:SubV) (out:Bool):∃ F',Fold (c.commit y out) F':=by
 have hcnt:=h.count
 have hl:(c.recs.length:Int)=c.count-m:=by rw [h.recs,List.length_drop,hcnt];have:=h.le;omega
 have hk1:=h.keep
 unfold CL.commit
 simp only
 by_cases hk:c.keep<((c.recs++[(⟨c.count+1,y,out⟩:RecV)]).length:Int)
 ·rw [if_pos hk]
  have hk':c.keep<(c.recs.length:Int)+1:=by rw [List.length_append,List.length_singleton] at hk;omega
  have hnm:((c.recs++[(⟨c.count+1,y,out⟩:RecV)]).headD ⟨0,y,out⟩).num=(m:Int)+1:=by
   cases hr:c.recs with
   | nil=>rw [hr] at hk';simp at hk';omega
   | cons r0 rs =>
    have h0:m<ds.length:=by rw [hr] at hl;rw [hcnt] at hl;simp at hl;omega
    have h2:=h.recs
    rw [hr,List.drop_eq_getElem_cons h0] at h2
    have h3:r0=ds[m]:=by injection h2
    show r0.num=_
    rw [h3];exact h.nums m h0
  have hne:(c.recs++[(⟨c.count+1,y,out⟩:RecV)]).drop 1≠[]:=by
   intro e
   have:=congrArg List.length e
   rw [List.length_drop,List.length_append,List.length_singleton] at this
   simp at this;rw [this] at hk';simp at hk';omega
  have hdl:(((c.recs++[(⟨c.count+1,y,out⟩:RecV)]).drop 1).length:Int)=c.recs.length:=by
   rw [List.length_drop,List.length_append,List.length_singleton];omega
  generalize (c.recs++[(⟨c.count+1,y,out⟩:RecV)]).headD ⟨0,y,out⟩=hd at *
  have hsub:∀ r∈F,r∈F++[hd]:=fun r hr=>List.mem_append_left _ hr
  have ht:Tabs (F++[hd]) c.i1 c.i2 c.i3 c.i4:=⟨⟨hF.tabs.h1.rs,hF.tabs.h1.ps,hF.tabs.h1.fr.more hsub⟩,⟨hF.tabs.h2.rs,hF.tabs.h2.ps,hF.tabs.h2.fr.more hsub⟩,⟨hF.tabs.h3.rs,hF.tabs.h3.ps,hF.tabs.h3.fr.more hsub⟩,⟨hF.tabs.h4.rs,hF.tabs.h4.ps,hF.tabs.h4.fr.more hsub⟩⟩
  have hS:=sumS_ok (c:={ c with count:=c.count+1,recs:=c.recs++[(⟨c.count+1,y,out⟩:RecV)] }) (r:=hd) (List.mem_append_right _ (List.mem_singleton.2 rfl)) ht
  have h1:=h.hm
  unfold CL.sum
  simp only
  generalize sumS { c with count:=c.count+1,recs:=c.recs++[(⟨c.count+1,y,out⟩:RecV)] } hd=S at *
  by_cases he:S.e=0
  ·rw [if_pos he]
   refine ⟨F++[hd],hS,fun r hr=>?_,fun _=>hne⟩
   simp only
   rw [hdl]
   rcases List.mem_append.1 hr with hr|hr
   ·have:=hF.old r hr;omega
   ·rw [List.mem_singleton.1 hr];omega
  ·rw [if_neg he]
   exact ⟨[],Tabs.nil _,fun _ h=>(by cases h),fun h=>absurd rfl h⟩
 ·rw [if_neg hk]
  refine ⟨F,hF.tabs,fun r hr=>?_,fun _=>by simp⟩
  simp only
  rw [List.length_append,List.length_singleton]
  have:=hF.old r hr;omega
end Go.Proofs.YtfbachckdadhoaaGreat.C
