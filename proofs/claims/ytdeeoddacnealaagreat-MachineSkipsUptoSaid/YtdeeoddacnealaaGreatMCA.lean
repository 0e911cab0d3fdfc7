/- Several texts as one: CA CB CC CD. -/
import Derived.Test.YtdeeoddacnealaaGreatMVU
import Derived.Test.YtdeeoddacnealaaGreatMQD
import Derived.Test.YtdeeoddacnealaaGreatMR
import Derived.Test.YtdeeoddacnealaaGreatMS
set_option linter.unusedVariables false
namespace Go.Proofs.YtdeeoddacnealaaGreat.C
open Go.RowKit Fl

structure RecV where
 num:Int
 s:SubV
 out:Bool
def RecV.cells (r:RecV):List Value:=[.int .i64 r.num,.int .i64 r.s.s0,.int .i64 r.s.s1,.int .i64 r.s.s2,.slice r.s.ra r.s.rs.length r.s.rc,.slice r.s.sa r.s.ss.length r.s.sc,.slice r.s.wa r.s.ws.length r.s.wc,.bool r.out]
theorem cells8 (r:RecV):r.cells.length=8:=rfl
def rCells (rs:List RecV):List Value:=rs.flatMap RecV.cells
theorem rCells_len (rs:List RecV):(rCells rs).length=rs.length * 8:=flat_len cells8 rs

structure CL where
 keep:Int
 old:Int
 count:Int
 horizon:Int
 recs:List RecV
 ra:Option Addr
 rc:Nat
 t1:Nat
 t2:Nat
 t3:Nat
 t4:Nat
 i1:List ItV
 i2:List ItV
 i3:List ItV
 i4:List Q.ItV
def CL.box (c:CL):Array Value:=#[.int .i64 c.keep,.int .i64 c.old,.int .i64 c.count,.int .i64 c.horizon,.slice c.ra c.recs.length c.rc,.pointer (some ⟨c.t1,0,none⟩),.pointer (some ⟨c.t2,0,none⟩),.pointer (some ⟨c.t3,0,none⟩),.pointer (some ⟨c.t4,0,none⟩)]

def Keeps (w w':World) (S:Nat→Prop):Prop:=∀ k,k<w.heap.size→S k→w'.heap[k]? = w.heap[k]?
theorem fat_kept {w w':World} {a:Option Addr} {xs:List Nat} (h:FAt w a xs) (hb:xs≠[]→∀ b o,a=some ⟨b,o,none⟩→w'.heap[b]? = w.heap[b]?):FAt w' a xs:=by
 refine ⟨?_,h.lt,h.len⟩
 rcases h.row with h0|⟨b,o,h1,h2,h3⟩
 ·exact .inl h0
 ·by_cases h0:xs=[]
  ·exact .inl h0
  have e:=hb h0 b o h1
  refine .inr ⟨b,o,h1,?_,fun i hi=>?_⟩
  ·rw [Array.getElem?_eq_getElem h2] at e
   exact (Array.getElem?_eq_some_iff.1 e).1
  ·rw [←h3 i hi]
   unfold World.cell?
   rw [e]
theorem sat_kept {w w':World} {a:Option Addr} {xs:List SpanV} (h:SAt w a xs) (hb:xs≠[]→∀ b o,a=some ⟨b,o,none⟩→w'.heap[b]? = w.heap[b]?):SAt w' a xs:=by
 refine ⟨?_,h.lt,h.len⟩
 rcases h.row with h0|⟨b,o,h1,h2,h3⟩
 ·exact .inl h0
 ·by_cases h0:xs=[]
  ·exact .inl h0
  have e:=hb h0 b o h1
  have k:∀ j,w'.cell? ⟨b,j,none⟩=w.cell? ⟨b,j,none⟩:=fun j=>by
   unfold World.cell?
   rw [e]
  refine .inr ⟨b,o,h1,?_,fun i hi=>⟨(k _).trans (h3 i hi).1,(k _).trans (h3 i hi).2.1,(k _).trans (h3 i hi).2.2.1,(k _).trans (h3 i hi).2.2.2⟩⟩
  rw [Array.getElem?_eq_getElem h2] at e
  exact (Array.getElem?_eq_some_iff.1 e).1

structure SubL (S:Nat→Prop) (x:SubV) (w:World):Prop where
 at_:x.At w
 r:x.rs≠[]→∀ b o,x.ra=some ⟨b,o,none⟩→S b
 s:x.ss≠[]→∀ b o,x.sa=some ⟨b,o,none⟩→S b
 w:x.ws≠[]→∀ b o,x.wa=some ⟨b,o,none⟩→S b
theorem SubL.kept {S S':Nat→Prop} {x:SubV} {w w':World} (h:SubL S x w) (hS:∀ k,k<w.heap.size→S k→S' k) (hk:Keeps w w' S):SubL S' x w':=by
 have lr:x.rs≠[]→∀ b o,x.ra=some ⟨b,o,none⟩→b<w.heap.size:=fun h0 b o e=>by
  rcases h.at_.r.row with h1|⟨b',o',h1,h2,_⟩
  ·exact absurd h1 h0
  ·rw [e] at h1;cases h1;exact h2
 have ls:x.ss≠[]→∀ b o,x.sa=some ⟨b,o,none⟩→b<w.heap.size:=fun h0 b o e=>by
  rcases h.at_.s.row with h1|⟨b',o',h1,h2,_⟩
  ·exact absurd h1 h0
  ·rw [e] at h1;cases h1;exact h2
 have lw:x.ws≠[]→∀ b o,x.wa=some ⟨b,o,none⟩→b<w.heap.size:=fun h0 b o e=>by
  rcases h.at_.w.row with h1|⟨b',o',h1,h2,_⟩
  ·exact absurd h1 h0
  ·rw [e] at h1;cases h1;exact h2
 exact ⟨⟨fat_kept h.at_.r fun h0 b o e=>hk b (lr h0 b o e) (h.r h0 b o e),sat_kept h.at_.s fun h0 b o e=>hk b (ls h0 b o e) (h.s h0 b o e),fat_kept h.at_.w fun h0 b o e=>hk b (lw h0 b o e) (h.w h0 b o e)⟩,
  fun h0 b o e=>hS b (lr h0 b o e) (h.r h0 b o e),fun h0 b o e=>hS b (ls h0 b o e) (h.s h0 b o e),fun h0 b o e=>hS b (lw h0 b o e) (h.w h0 b o e)⟩

theorem row_kept {w w':World} {base size n:Nat} {e:TypeId} {v:Value} {xs:List Value} (h:w.ownsRow base e size v n xs) (hb:∀ g,v.ownBlock=some g→w'.heap[g]? = w.heap[g]?):w'.ownsRow base e size v n xs:=by
 refine ⟨h.1,?_⟩
 rcases h.2 with h4|⟨g,cap,cur,rfl,hbg,hg,h5⟩
 ·exact .inl h4
 ·exact .inr ⟨g,cap,cur,rfl,hbg,(hb g rfl).trans hg,h5⟩
structure TabL (S:Nat→Prop) (B T:Nat) (most:Int) (its:List ItV) (w:World):Prop where
 tab:∃ v,TabAt w B T v most its∧S T∧∀ g,v.ownBlock=some g→S g
 up:rises its
 le:(its.length:Int)≤most
 m64:most≤64
theorem TabL.kept {S S':Nat→Prop} {B T:Nat} {most:Int} {its:List ItV} {w w':World} (h:TabL S B T most its w) (hS:∀ k,k<w.heap.size→S k→S' k) (hk:Keeps w w' S):TabL S' B T most its w':=by
 obtain ⟨v,h1,h2,h3⟩:=h.tab
 have hl:=h1.own.lt
 exact ⟨⟨v,⟨(hk T h1.lt h2).trans h1.tab,row_kept h1.own fun g e=>hk g (hl g e).2 (h3 g e),h1.apart,h1.low,h1.len⟩,hS T h1.lt h2,fun g e=>hS g (hl g e).2 (h3 g e)⟩,h.up,h.le,h.m64⟩
structure TabQ (S:Nat→Prop) (B T:Nat) (most:Int) (its:List Q.ItV) (w:World):Prop where
 tab:∃ v,Q.TabAt w B T v most its∧S T∧∀ g,v.ownBlock=some g→S g
 up:Q.rises its
 le:(its.length:Int)≤most
 m64:most≤64
theorem TabQ.kept {S S':Nat→Prop} {B T:Nat} {most:Int} {its:List Q.ItV} {w w':World} (h:TabQ S B T most its w) (hS:∀ k,k<w.heap.size→S k→S' k) (hk:Keeps w w' S):TabQ S' B T most its w':=by
 obtain ⟨v,h1,h2,h3⟩:=h.tab
 have hl:=h1.own.lt
 exact ⟨⟨v,⟨(hk T h1.lt h2).trans h1.tab,row_kept h1.own fun g e=>hk g (hl g e).2 (h3 g e),h1.apart,h1.low,h1.len⟩,hS T h1.lt h2,fun g e=>hS g (hl g e).2 (h3 g e)⟩,h.up,h.le,h.m64⟩

structure CAt (B T:Nat) (c:CL) (ow:Nat→Nat) (w:World):Prop where
 box:w.heap[T]? = some (.cells c.box 111 (0,0))
 hT:ow T=1
 row:w.ownsRow B 122 8 (.slice c.ra c.recs.length c.rc) c.recs.length (rCells c.recs)
 hrow:∀ g,(Value.slice c.ra c.recs.length c.rc).ownBlock=some g→ow g=1∧g≠T
 k1:TabL (fun k=>ow k=2) B c.t1 (mostI c.old) c.i1 w
 k2:TabL (fun k=>ow k=3) B c.t2 (mostI c.old) c.i2 w
 k3:TabL (fun k=>ow k=4) B c.t3 (mostI c.old) c.i3 w
 k4:TabQ (fun k=>ow k=5) B c.t4 (mostI c.old) c.i4 w
 subs:∀ r∈c.recs,SubL (fun k=>ow k=6) r.s w
 low:∀ k,ow k≠0→B≤k∧k<w.heap.size
 cnt:0≤c.horizon∧c.horizon≤c.count∧c.count≤1099511627776
 nums:∀ r∈c.recs,0<r.num∧r.num≤c.count
 kp:1≤c.keep∧c.keep≤32∧(c.recs.length:Int)≤c.keep+1
 chk:∀ r∈c.recs,r.s.rs.length≤16∧r.s.ss.length≤8∧r.s.ws.length≤16

structure Fr (ow ow':Nat→Nat) (w w':World):Prop where
 os:w'.os=w.os
 tape:w'.tape=w.tape
 output:w'.output=w.output
 size:w.heap.size≤w'.heap.size
 block:∀ k,k<w.heap.size→ow k=0→w'.heap[k]? = w.heap[k]?
 own:∀ k,k<w.heap.size→ow' k=ow k
theorem Fr.refl (ow:Nat→Nat) (w:World):Fr ow ow w w:=⟨rfl,rfl,rfl,Nat.le_refl _,fun _ _ _=>rfl,fun _ _=>rfl⟩
theorem Fr.trans {o1 o2 o3:Nat→Nat} {a b c:World} (h:Fr o1 o2 a b) (k:Fr o2 o3 b c):Fr o1 o3 a c :=
 ⟨k.os.trans h.os,k.tape.trans h.tape,k.output.trans h.output,Nat.le_trans h.size k.size,fun i hi h0=>(k.block i (Nat.lt_of_lt_of_le hi h.size) ((h.own i hi).trans h0)).trans (h.block i hi h0),fun i hi=>(k.own i (Nat.lt_of_lt_of_le hi h.size)).trans (h.own i hi)⟩
theorem Fr.of_below (ow:Nat→Nat) {w w':World} (h:Below w.heap.size w w'):Fr ow ow w w':=⟨h.os,h.tape,h.output,h.size,fun k hk _=>h.block k hk,fun _ _=>rfl⟩
theorem CAt.below {B T:Nat} {c:CL} {ow:Nat→Nat} {w w':World} (h:CAt B T c ow w) (hb:Below w.heap.size w w'):CAt B T c ow w':=by
 have hk:∀ S:Nat→Prop,Keeps w w' S:=fun S k hk _=>hb.block k hk
 have id:∀ S:Nat→Prop,∀ k,k<w.heap.size→S k→S k:=fun S k _ h=>h
 have hT:=(h.low T (by rw [h.hT];decide)).2
 exact ⟨(hb.block T hT).trans h.box,h.hT,row_kept h.row fun g e=>hb.block g (h.row.lt g e).2,h.hrow,h.k1.kept (id _) (hk _),h.k2.kept (id _) (hk _),h.k3.kept (id _) (hk _),h.k4.kept (id _) (hk _),fun r hr=>(h.subs r hr).kept (id _) (hk _),fun k hk=>⟨(h.low k hk).1,Nat.lt_of_lt_of_le (h.low k hk).2 hb.size⟩,h.cnt,h.nums,h.kp,h.chk⟩

def give (ow:Nat→Nat) (w w':World) (j:Nat):Nat→Nat:=fun k=>if k<w.heap.size then ow k else if k<w'.heap.size then j else 0
theorem give_old {ow:Nat→Nat} {w w':World} {j k:Nat} (h:k<w.heap.size):give ow w w' j k=ow k:=by unfold give;rw [if_pos h]
theorem give_new {ow:Nat→Nat} {w w':World} {j k:Nat} (h:w.heap.size≤k) (h':k<w'.heap.size):give ow w w' j k=j:=by unfold give;rw [if_neg (by omega),if_pos h']
structure Turn (ow:Nat→Nat) (j:Nat) (w w':World):Prop where
 os:w'.os=w.os
 tape:w'.tape=w.tape
 output:w'.output=w.output
 size:w.heap.size≤w'.heap.size
 block:∀ k,k<w.heap.size→ow k≠j→w'.heap[k]? = w.heap[k]?
theorem Turn.fr {ow:Nat→Nat} {j:Nat} {w w':World} (h:Turn ow j w w') (hj:j≠0):Fr ow (give ow w w' j) w w':=⟨h.os,h.tape,h.output,h.size,fun k hk h0=>h.block k hk (by rw [h0];exact hj.symm),fun k hk=>give_old hk⟩
theorem Turn.keeps {ow:Nat→Nat} {j i:Nat} {w w':World} (h:Turn ow j w w') (hj:i≠j):Keeps w w' (fun k=>ow k=i):=fun k hk e=>h.block k hk (by rw [e];exact hj)
theorem Turn.stay {ow:Nat→Nat} {j i:Nat} {w w':World} (_:Turn ow j w w'):∀ k,k<w.heap.size→ow k=i→give ow w w' j k=i:=fun k hk e=>(give_old hk).trans e
theorem Turn.low {B j:Nat} {ow:Nat→Nat} {w w':World} (h:Turn ow j w w') (hB:B≤w.heap.size) (hl:∀ k,ow k≠0→B≤k∧k<w.heap.size):∀ k,give ow w w' j k≠0→B≤k∧k<w'.heap.size:=fun k hk=>by
 have hs:=h.size
 by_cases h1:k<w.heap.size
 ·rw [give_old h1] at hk
  have:=hl k hk;omega
 ·by_cases h2:k<w'.heap.size
  ·omega
  ·exfalso;apply hk;unfold give;rw [if_neg h1,if_neg h2]
theorem upd_turn {ow:Nat→Nat} {j T:Nat} {w w':World} {v v':Value} (h:Upd w w' T v v') (hT:ow T=j) (hv:∀ g,v.ownBlock=some g→ow g=j):Turn ow j w w' :=
 ⟨h.os,h.tape,h.output,h.size,fun k hk hj=>h.block k hk (fun e=>hj (by rw [e];exact hT)) fun e=>hj (hv k e.symm)⟩
theorem updq_turn {ow:Nat→Nat} {j T:Nat} {w w':World} {v v':Value} (h:Q.Upd w w' T v v') (hT:ow T=j) (hv:∀ g,v.ownBlock=some g→ow g=j):Turn ow j w w' :=
 ⟨h.os,h.tape,h.output,h.size,fun k hk hj=>h.block k hk (fun e=>hj (by rw [e];exact hT)) fun e=>hj (hv k e.symm)⟩
theorem upd_in {ow:Nat→Nat} {j T:Nat} {w w':World} {v v':Value} (h:Upd w w' T v v') (hv:∀ g,v.ownBlock=some g→ow g=j∧g<w.heap.size) (hn:∀ g,v'.ownBlock=some g→g<w'.heap.size):∀ g,v'.ownBlock=some g→give ow w w' j g=j:=fun g e=>by
 rcases h.own with h1|h1|⟨g',h1,h2⟩
 ·rw [h1] at e;rw [give_old (hv g e).2];exact (hv g e).1
 ·rw [h1] at e;cases e
 ·have:=hn g e
  rw [h1] at e;cases e;exact give_new h2 this
theorem updq_in {ow:Nat→Nat} {j T:Nat} {w w':World} {v v':Value} (h:Q.Upd w w' T v v') (hv:∀ g,v.ownBlock=some g→ow g=j∧g<w.heap.size) (hn:∀ g,v'.ownBlock=some g→g<w'.heap.size):∀ g,v'.ownBlock=some g→give ow w w' j g=j:=fun g e=>by
 rcases h.own with h1|h1|⟨g',h1,h2⟩
 ·rw [h1] at e;rw [give_old (hv g e).2];exact (hv g e).1
 ·rw [h1] at e;cases e
 ·have:=hn g e
  rw [h1] at e;cases e;exact give_new h2 this

theorem tabL_put {ow:Nat→Nat} {j B T:Nat} {most:Int} {its:List ItV} {w:World} (h:TabL (fun k=>ow k=j) B T most its w) (hB:B≤w.heap.size) (kb:Nat) (n:Int) (hk:kb<2 ^ 64) :
  Calls Tryz.prog 120 #[.pointer (some ⟨T,0,none⟩),.float .f64 kb,.int .i64 n] w fun e w'=>e=.returned (.int .i64 (putI its most kb n).1)∧Turn ow j w w'∧TabL (fun k=>give ow w w' j k=j) B T most (putI its most kb n).2 w':=by
 obtain ⟨v,h1,h2,h3⟩:=h.tab
 have hl:=h1.own.lt
 refine (tabPut_any h1 hB h.up kb hk n h.le h.m64).mono ?_
 rintro e w' ⟨v',rfl,k3,k4⟩
 exact ⟨rfl,upd_turn k4 h2 h3,⟨v',k3,(give_old h1.lt).trans h2,upd_in k4 (fun g e=>⟨h3 g e,(hl g e).2⟩) fun g e=>(k3.own.lt g e).2⟩,putI_rises h.up most kb n,putI_le h.le kb n,h.m64⟩
theorem tabL_clear {ow:Nat→Nat} {j B T:Nat} {most:Int} {its:List ItV} {w:World} (h:TabL (fun k=>ow k=j) B T most its w) :
  Calls Tryz.prog 320 #[.pointer (some ⟨T,0,none⟩)] w fun e w'=>e=.returned (.tuple #[])∧Turn ow j w w'∧TabL (fun k=>give ow w w' j k=j) B T most [] w':=by
 obtain ⟨v,h1,h2,h3⟩:=h.tab
 have hl:=h1.own.lt
 refine (tabClear_any h1).mono ?_
 rintro e w' ⟨rfl,k3,k4⟩
 exact ⟨rfl,upd_turn k4 h2 h3,⟨_,k3,(give_old h1.lt).trans h2,upd_in k4 (fun g e=>⟨h3 g e,(hl g e).2⟩) fun g e=>(k3.own.lt g e).2⟩,List.Pairwise.nil,by have:=h.le;simp;omega,h.m64⟩
theorem tabQ_put {ow:Nat→Nat} {j B T:Nat} {most:Int} {its:List Q.ItV} {w:World} (h:TabQ (fun k=>ow k=j) B T most its w) (hB:B≤w.heap.size) (lo hi:Nat) (a b:Bool) (n:Int) (h1':lo<2 ^ 64) (h2':hi<2 ^ 64) :
  Calls Tryz.prog 121 #[.pointer (some ⟨T,0,none⟩),.agg #[.float .f64 lo,.float .f64 hi,.bool a,.bool b],.int .i64 n] w fun e w'=>e=.returned (.int .i64 (Q.putI its most (canonS lo hi a b) n).1)∧Turn ow j w w'∧TabQ (fun k=>give ow w w' j k=j) B T most (Q.putI its most (canonS lo hi a b) n).2 w':=by
 obtain ⟨v,h1,h2,h3⟩:=h.tab
 have hl:=h1.own.lt
 refine (Q.tabPut_any h1 hB h.up lo hi a b h1' h2' n h.le h.m64).mono ?_
 rintro e w' ⟨v',rfl,k3,k4⟩
 exact ⟨rfl,updq_turn k4 h2 h3,⟨v',k3,(give_old h1.lt).trans h2,updq_in k4 (fun g e=>⟨h3 g e,(hl g e).2⟩) fun g e=>(k3.own.lt g e).2⟩,Q.putI_rises h.up most lo hi a b n,Q.putI_le h.le _ n,h.m64⟩
theorem tabQ_clear {ow:Nat→Nat} {j B T:Nat} {most:Int} {its:List Q.ItV} {w:World} (h:TabQ (fun k=>ow k=j) B T most its w) :
  Calls Tryz.prog 321 #[.pointer (some ⟨T,0,none⟩)] w fun e w'=>e=.returned (.tuple #[])∧Turn ow j w w'∧TabQ (fun k=>give ow w w' j k=j) B T most [] w':=by
 obtain ⟨v,h1,h2,h3⟩:=h.tab
 have hl:=h1.own.lt
 refine (Q.tabClear_any h1).mono ?_
 rintro e w' ⟨rfl,k3,k4⟩
 exact ⟨rfl,updq_turn k4 h2 h3,⟨_,k3,(give_old h1.lt).trans h2,updq_in k4 (fun g e=>⟨h3 g e,(hl g e).2⟩) fun g e=>(k3.own.lt g e).2⟩,List.Pairwise.nil,by have:=h.le;simp;omega,h.m64⟩

section
variable {B T : Nat} {c : CL} {ow : Nat → Nat} {w w' : World}
theorem CAt.lt (h:CAt B T c ow w):B≤T∧T<w.heap.size:=h.low T (by rw [h.hT];decide)
theorem CAt.hB (h:CAt B T c ow w):B≤w.heap.size:=by have:=h.lt;omega
theorem CAt.turn (h:CAt B T c ow w) {j:Nat} (k:Turn ow j w w') (h1:j≠1) (h6:j≠6) {c':CL} (hc:c' = { c with i1:=c'.i1,i2:=c'.i2,i3:=c'.i3,i4:=c'.i4 })
  (k1:TabL (fun k=>give ow w w' j k=2) B c.t1 (mostI c.old) c'.i1 w') (k2:TabL (fun k=>give ow w w' j k=3) B c.t2 (mostI c.old) c'.i2 w') (k3:TabL (fun k=>give ow w w' j k=4) B c.t3 (mostI c.old) c'.i3 w') (k4:TabQ (fun k=>give ow w w' j k=5) B c.t4 (mostI c.old) c'.i4 w') :
  CAt B T c' (give ow w w' j) w':=by
 have hr:=h.row.lt
 rw [hc]
 exact ⟨(k.block T h.lt.2 (by rw [h.hT];exact h1.symm)).trans h.box,(give_old h.lt.2).trans h.hT,row_kept h.row fun g e=>k.block g (hr g e).2 (by rw [(h.hrow g e).1];exact h1.symm),fun g e=>⟨(give_old (hr g e).2).trans (h.hrow g e).1,(h.hrow g e).2⟩,k1,k2,k3,k4,
  fun r hr=>(h.subs r hr).kept k.stay (k.keeps h6.symm),k.low h.hB h.low,h.cnt,h.nums,h.kp,h.chk⟩
theorem put1 (h:CAt B T c ow w) (kb:Nat) (n:Int) (hk:kb<2 ^ 64) :
  Calls Tryz.prog 120 #[.pointer (some ⟨c.t1,0,none⟩),.float .f64 kb,.int .i64 n] w fun e w'=>e=.returned (.int .i64 (putI c.i1 (mostI c.old) kb n).1)∧∃ ow',CAt B T { c with i1:=(putI c.i1 (mostI c.old) kb n).2 } ow' w'∧Fr ow ow' w w':=by
 refine (tabL_put h.k1 h.hB kb n hk).mono ?_
 rintro e w' ⟨rfl,k,q⟩
 exact ⟨rfl,_,h.turn k (by decide) (by decide) rfl q (h.k2.kept k.stay (k.keeps (by decide))) (h.k3.kept k.stay (k.keeps (by decide))) (h.k4.kept k.stay (k.keeps (by decide))),k.fr (by decide)⟩
theorem put2 (h:CAt B T c ow w) (kb:Nat) (n:Int) (hk:kb<2 ^ 64) :
  Calls Tryz.prog 120 #[.pointer (some ⟨c.t2,0,none⟩),.float .f64 kb,.int .i64 n] w fun e w'=>e=.returned (.int .i64 (putI c.i2 (mostI c.old) kb n).1)∧∃ ow',CAt B T { c with i2:=(putI c.i2 (mostI c.old) kb n).2 } ow' w'∧Fr ow ow' w w':=by
 refine (tabL_put h.k2 h.hB kb n hk).mono ?_
 rintro e w' ⟨rfl,k,q⟩
 exact ⟨rfl,_,h.turn k (by decide) (by decide) rfl (h.k1.kept k.stay (k.keeps (by decide))) q (h.k3.kept k.stay (k.keeps (by decide))) (h.k4.kept k.stay (k.keeps (by decide))),k.fr (by decide)⟩
theorem put3 (h:CAt B T c ow w) (kb:Nat) (n:Int) (hk:kb<2 ^ 64) :
  Calls Tryz.prog 120 #[.pointer (some ⟨c.t3,0,none⟩),.float .f64 kb,.int .i64 n] w fun e w'=>e=.returned (.int .i64 (putI c.i3 (mostI c.old) kb n).1)∧∃ ow',CAt B T { c with i3:=(putI c.i3 (mostI c.old) kb n).2 } ow' w'∧Fr ow ow' w w':=by
 refine (tabL_put h.k3 h.hB kb n hk).mono ?_
 rintro e w' ⟨rfl,k,q⟩
 exact ⟨rfl,_,h.turn k (by decide) (by decide) rfl (h.k1.kept k.stay (k.keeps (by decide))) (h.k2.kept k.stay (k.keeps (by decide))) q (h.k4.kept k.stay (k.keeps (by decide))),k.fr (by decide)⟩
theorem put4 (h:CAt B T c ow w) (lo hi:Nat) (a b:Bool) (n:Int) (h1:lo<2 ^ 64) (h2:hi<2 ^ 64) :
  Calls Tryz.prog 121 #[.pointer (some ⟨c.t4,0,none⟩),.agg #[.float .f64 lo,.float .f64 hi,.bool a,.bool b],.int .i64 n] w fun e w'=>e=.returned (.int .i64 (Q.putI c.i4 (mostI c.old) (canonS lo hi a b) n).1)∧∃ ow',CAt B T { c with i4:=(Q.putI c.i4 (mostI c.old) (canonS lo hi a b) n).2 } ow' w'∧Fr ow ow' w w':=by
 refine (tabQ_put h.k4 h.hB lo hi a b n h1 h2).mono ?_
 rintro e w' ⟨rfl,k,q⟩
 exact ⟨rfl,_,h.turn k (by decide) (by decide) rfl (h.k1.kept k.stay (k.keeps (by decide))) (h.k2.kept k.stay (k.keeps (by decide))) (h.k3.kept k.stay (k.keeps (by decide))) q,k.fr (by decide)⟩
theorem clear1 (h:CAt B T c ow w) :
  Calls Tryz.prog 320 #[.pointer (some ⟨c.t1,0,none⟩)] w fun e w'=>e=.returned (.tuple #[])∧∃ ow',CAt B T { c with i1:=[] } ow' w'∧Fr ow ow' w w':=by
 refine (tabL_clear h.k1).mono ?_
 rintro e w' ⟨rfl,k,q⟩
 exact ⟨rfl,_,h.turn k (by decide) (by decide) rfl q (h.k2.kept k.stay (k.keeps (by decide))) (h.k3.kept k.stay (k.keeps (by decide))) (h.k4.kept k.stay (k.keeps (by decide))),k.fr (by decide)⟩
theorem clear2 (h:CAt B T c ow w) :
  Calls Tryz.prog 320 #[.pointer (some ⟨c.t2,0,none⟩)] w fun e w'=>e=.returned (.tuple #[])∧∃ ow',CAt B T { c with i2:=[] } ow' w'∧Fr ow ow' w w':=by
 refine (tabL_clear h.k2).mono ?_
 rintro e w' ⟨rfl,k,q⟩
 exact ⟨rfl,_,h.turn k (by decide) (by decide) rfl (h.k1.kept k.stay (k.keeps (by decide))) q (h.k3.kept k.stay (k.keeps (by decide))) (h.k4.kept k.stay (k.keeps (by decide))),k.fr (by decide)⟩
theorem clear3 (h:CAt B T c ow w) :
  Calls Tryz.prog 320 #[.pointer (some ⟨c.t3,0,none⟩)] w fun e w'=>e=.returned (.tuple #[])∧∃ ow',CAt B T { c with i3:=[] } ow' w'∧Fr ow ow' w w':=by
 refine (tabL_clear h.k3).mono ?_
 rintro e w' ⟨rfl,k,q⟩
 exact ⟨rfl,_,h.turn k (by decide) (by decide) rfl (h.k1.kept k.stay (k.keeps (by decide))) (h.k2.kept k.stay (k.keeps (by decide))) q (h.k4.kept k.stay (k.keeps (by decide))),k.fr (by decide)⟩
theorem clear4 (h:CAt B T c ow w) :
  Calls Tryz.prog 321 #[.pointer (some ⟨c.t4,0,none⟩)] w fun e w'=>e=.returned (.tuple #[])∧∃ ow',CAt B T { c with i4:=[] } ow' w'∧Fr ow ow' w w':=by
 refine (tabQ_clear h.k4).mono ?_
 rintro e w' ⟨rfl,k,q⟩
 exact ⟨rfl,_,h.turn k (by decide) (by decide) rfl (h.k1.kept k.stay (k.keeps (by decide))) (h.k2.kept k.stay (k.keeps (by decide))) (h.k3.kept k.stay (k.keeps (by decide))) q,k.fr (by decide)⟩
theorem at_ {S:Nat→Prop} {B T:Nat} {most:Int} {its:List ItV} {w:World} (h:TabL S B T most its w) (kb:Nat) (hk:kb<2 ^ 64) :
  Calls Tryz.prog 188 #[.pointer (some ⟨T,0,none⟩),.float .f64 kb] w (Ret (.int .i64 (atI its kb)) w):=by
 obtain ⟨v,h1,_⟩:=h.tab
 exact tabAt_any h1 h.up kb hk
theorem over_ {S:Nat→Prop} {B T:Nat} {most:Int} {its:List ItV} {w:World} (h:TabL S B T most its w) (lo hi:Nat) (a b:Bool) (hl:lo<2 ^ 64) (hh:hi<2 ^ 64) :
  Calls Tryz.prog 229 #[.pointer (some ⟨T,0,none⟩),.agg #[.float .f64 lo,.float .f64 hi,.bool a,.bool b]] w (Ret (.int .i64 (overI its (canonS lo hi a b))) w):=by
 obtain ⟨v,h1,_⟩:=h.tab
 exact tabOver_any h1 h.up lo hi a b hl hh
theorem atq_ {S:Nat→Prop} {B T:Nat} {most:Int} {its:List Q.ItV} {w:World} (h:TabQ S B T most its w) (kb:Nat) (hk:kb<2 ^ 64) :
  Calls Tryz.prog 189 #[.pointer (some ⟨T,0,none⟩),.float .f64 kb] w (Ret (.int .i64 (Q.atI its kb)) w):=by
 obtain ⟨v,h1,_⟩:=h.tab
 exact Q.tabAt_any h1 h.up kb hk
end

structure LookV where
 written:Bool
 out:Bool
 least:Int
 most:Int
def overR (its:List ItV) (n:Int) (rs:List Nat):Int:=rs.foldl (fun n k=>max n (atI its k)) n
def overS (its:List ItV) (n:Int) (ss:List SpanV):Int:=ss.foldl (fun n s=>max n (overI its s.rg)) n
def overD (its:List ItV) (x:SubV):Int:=overS its (overR its 0 x.rs) x.ss
theorem overR_snoc (its:List ItV) (n:Int) (rs:List Nat) (k:Nat):overR its n (rs++[k])=max (overR its n rs) (atI its k):=by simp [overR,List.foldl_append]
theorem overS_snoc (its:List ItV) (n:Int) (ss:List SpanV) (s:SpanV):overS its n (ss++[s])=max (overS its n ss) (overI its s.rg):=by simp [overS,List.foldl_append]

def lkW (i1 i3:List ItV) (i4:List Q.ItV) (s2:Int) (l:Bool×Int) (k:Nat):Bool×Int:=(l.1||decide (s2<atI i1 k),max (max l.2 (atI i3 k)) (Q.atI i4 k))
def lksW (i1 i3:List ItV) (i4:List Q.ItV) (s2:Int) (ws:List Nat):Bool×Int:=ws.foldl (lkW i1 i3 i4 s2) (false,0)
theorem lksW_snoc (i1 i3:List ItV) (i4:List Q.ItV) (s2:Int) (ws:List Nat) (k:Nat):lksW i1 i3 i4 s2 (ws++[k])=lkW i1 i3 i4 s2 (lksW i1 i3 i4 s2 ws) k:=by simp [lksW,List.foldl_append]
def sumL (c:CL) (x:SubV):LookV :=
 let l:=lksW c.i1 c.i3 c.i4 x.s2 x.ws
 ⟨l.1,decide (x.s2<overD c.i2 x),if x.s2<overD c.i1 x then x.s2+1 else 0,if l.2≤x.s2 then 0 else l.2⟩
def recL (x:SubV) (l:LookV) (r:RecV):LookV :=
 if r.num≤x.s2 then l else
  ⟨l.written||x.ws.any (fun k=>r.s.writes k),l.out||(x.meets r.s && r.out),if x.meets r.s=true∧l.least=0 then r.num else l.least,if r.s.meets x=true then r.num else l.most⟩
def recsL (x:SubV) (l:LookV) (rs:List RecV):LookV:=rs.foldl (recL x) l
theorem recsL_snoc (x:SubV) (l:LookV) (rs:List RecV) (r:RecV):recsL x l (rs++[r])=recL x (recsL x l rs) r:=by simp [recsL,List.foldl_append]
def lookD (c:CL) (x:SubV):LookV:=recsL x (sumL c x) c.recs

structure SumS where
 e:Int
 i1:List ItV
 i2:List ItV
 i3:List ItV
 i4:List Q.ItV
def note (e f:Int):Int:=if e=0 then f else e
def sW (m n:Int) (out:Bool) (s:SumS) (k:Nat):SumS :=
 let p:=putI s.i1 m k n
 let q:=putI s.i2 m k n
 if out=true then { s with e:=note (note s.e p.1) q.1,i1:=p.2,i2:=q.2 } else { s with e:=note s.e p.1,i1:=p.2 }
def sR (m n:Int) (s:SumS) (k:Nat):SumS:={ s with e:=note s.e (putI s.i3 m k n).1,i3:=(putI s.i3 m k n).2 }
def sS (m n:Int) (s:SumS) (x:SpanV):SumS:={ s with e:=note s.e (Q.putI s.i4 m x.rg n).1,i4:=(Q.putI s.i4 m x.rg n).2 }
def sWs (m n:Int) (out:Bool) (s:SumS) (ks:List Nat):SumS:=ks.foldl (sW m n out) s
def sRs (m n:Int) (s:SumS) (ks:List Nat):SumS:=ks.foldl (sR m n) s
def sSs (m n:Int) (s:SumS) (xs:List SpanV):SumS:=xs.foldl (sS m n) s
theorem sWs_snoc (m n:Int) (out:Bool) (s:SumS) (ks:List Nat) (k:Nat):sWs m n out s (ks++[k])=sW m n out (sWs m n out s ks) k:=by simp [sWs,List.foldl_append]
theorem sRs_snoc (m n:Int) (s:SumS) (ks:List Nat) (k:Nat):sRs m n s (ks++[k])=sR m n (sRs m n s ks) k:=by simp [sRs,List.foldl_append]
theorem sSs_snoc (m n:Int) (s:SumS) (xs:List SpanV) (x:SpanV):sSs m n s (xs++[x])=sS m n (sSs m n s xs) x:=by simp [sSs,List.foldl_append]
def sumS (c:CL) (r:RecV):SumS:=sSs (mostI c.old) r.num (sRs (mostI c.old) r.num (sWs (mostI c.old) r.num r.out ⟨0,c.i1,c.i2,c.i3,c.i4⟩ r.s.ws) r.s.rs) r.s.ss
def CL.sum (c:CL) (r:RecV):CL :=
 let s:=sumS c r
 if s.e=0 then { c with i1:=s.i1,i2:=s.i2,i3:=s.i3,i4:=s.i4 } else { c with i1:=[],i2:=[],i3:=[],i4:=[],horizon:=r.num }

def codeD (c:CL) (x:SubV) (chk:Int):Int :=
 if chk≠0 then chk else if c.count=1099511627776 then 3 else if c.count<x.s2 then 113 else if x.s2<c.horizon then 110 else
  let l:=lookD c x
  if l.written=true then 111 else if l.out=true∨(0<l.least∧0<l.most∧l.least≤l.most) then 112 else 0

theorem fat_get {w:World} {a:Option Addr} {xs:List Nat} (h:FAt w a xs) (k:Nat) (hk:k<xs.length):∃ b o,a=some ⟨b,o,none⟩∧b<w.heap.size∧w.cell? ⟨b,o+k,none⟩=some (.float .f64 (xs[k]?.getD 0))∧xs[k]?.getD 0<2 ^ 64:=by
 rcases h.row with rfl|⟨b,o,h1,h2,h3⟩
 ·exact absurd hk (Nat.not_lt_zero _)
 ·exact ⟨b,o,h1,h2,h3 k hk,h.lt k hk⟩
theorem sat_get {w:World} {a:Option Addr} {ss:List SpanV} (h:SAt w a ss) (k:Nat) (hk:k<ss.length):∃ b o,a=some ⟨b,o,none⟩∧b<w.heap.size∧(w.cell? ⟨b,o+k * 4,none⟩=some (.float .f64 (ss[k]?.getD default).lo)∧w.cell? ⟨b,o+k * 4+1,none⟩=some (.float .f64 (ss[k]?.getD default).hi) ∧
  w.cell? ⟨b,o+k * 4+2,none⟩=some (.bool (ss[k]?.getD default).a)∧w.cell? ⟨b,o+k * 4+3,none⟩=some (.bool (ss[k]?.getD default).b))∧(ss[k]?.getD default).lo<2 ^ 64∧(ss[k]?.getD default).hi<2 ^ 64:=by
 rcases h.row with rfl|⟨b,o,h1,h2,h3⟩
 ·exact absurd hk (Nat.not_lt_zero _)
 ·exact ⟨b,o,h1,h2,h3 k hk,h.lt k hk⟩
theorem TabL.below {S:Nat→Prop} {B T:Nat} {most:Int} {its:List ItV} {w w':World} (h:TabL S B T most its w) (hb:Below w.heap.size w w'):TabL S B T most its w':=h.kept (fun _ _ h=>h) fun k hk _=>hb.block k hk
theorem TabQ.below {S:Nat→Prop} {B T:Nat} {most:Int} {its:List Q.ItV} {w w':World} (h:TabQ S B T most its w) (hb:Below w.heap.size w w'):TabQ S B T most its w':=h.kept (fun _ _ h=>h) fun k hk _=>hb.block k hk

set_option maxRecDepth 100000 in
theorem over_any {S:Nat→Prop} {B T:Nat} {most:Int} {its:List ItV} {w:World} (h:TabL S B T most its w) (x:SubV) (hx:x.At w) :
  Calls Tryz.prog 187 #[.pointer (some ⟨T,0,none⟩),.agg #[.int .i64 x.s0,.int .i64 x.s1,.int .i64 x.s2,.slice x.ra x.rs.length x.rc,.slice x.sa x.ss.length x.sc,.slice x.wa x.ws.length x.wc]] w (Ret (.int .i64 (overD its x)) w):=by
 have HA:=hid fun W (hb:Below w.heap.size w W) kb hk=>at_ (h.below hb) kb hk
 have HO:=hid fun W (hb:Below w.heap.size w W) lo hi a b hl hh=>over_ (h.below hb) lo hi a b hl hh
 have HR:=hid (fat_get hx.r)
 have HS:=hid (sat_get hx.s)
 have hm1:=hx.r.len
 have hm2:=hx.s.len
 unfold maxLen at hm1 hm2
 obtain ⟨V,hV⟩:∃ V,overD its x=V:=⟨_,rfl⟩
 rw [hV]
 have HV:=hid hV
 unfold overD at HV
 clear h hx hV
 obtain ⟨s0,s1,s2,ra,rc,rs,sa,sc,ss,wa,wc,ws⟩:=x
 simp only at *
 obtain ⟨n1,hn1⟩:∃ n,rs.length=n:=⟨_,rfl⟩
 obtain ⟨n2,hn2⟩:∃ n,ss.length=n:=⟨_,rfl⟩
 rw [hn1] at HR hm1 ⊢
 rw [hn2] at HS hm2 ⊢
 generalize ws.length=n3 at *
 have HN1:=hid hn1;have HN2:=hid hn2
 clear hn1 hn2
 go_enter Tryz.func187,Tryz.ntmps187
 go_wp2
 go_loopw [5,13] (fun nv i wr=>∃ k:Nat,k≤n1∧i=.int .i64 k∧nv=.int .i64 (overR its 0 (rs.take k)) ∧
  Below (w.heap.size+1) (w.alloc (.cells #[.int .i64 s0,.int .i64 s1,.int .i64 s2,.slice ra n1 rc,.slice sa n2 sc,.slice wa n3 wc] 41 (0,0))) wr) (fun _ i _=>n1-(intOf i).toNat)
 case atStart=>exact ⟨0,Nat.zero_le _,rfl,rfl,Below.refl _ _⟩
 case round =>
  obtain ⟨k,hk,rfl,rfl,hbw⟩:=hrel
  have hbw0:Below w.heap.size w wr:=((Below.refl _ _).alloc (Nat.le_refl _) _).trans (hbw.mono (by omega))
  obtain ⟨e0,e1,e2,e3,e4,e5⟩:=cells6 hbw
  clear e0 e1 e2 e5
  have hsz:=hbw0.size
  have hsz':w.heap.size<wr.heap.size:=by have:=hbw.size;simp at this;omega
  by_cases hlt:k<n1
  ·obtain ⟨b,o,rfl,hb,c0,l0⟩:=HR.out k hlt
   have hlt':(k:Int)<(n1:Int):=by omega
   have hkx:=hid (fl_some (xs:=rs) (k:=k) (by rw [HN1.out];exact hlt))
   have d0:=(hbw0.cell (p:=⟨b,_,none⟩) hb).trans c0
   clear c0
   generalize rs[k]?.getD 0=key at *
   go_wp2_with (go_at_call 188;with_reducible refine mQ (HA.out _ (by exact below_auto) _ l0) ?_;intro w3 hb3 hc3 hf3 hz3;intros)
   go_roundw
   case rel=>exact ⟨k+1,by omega,by go_num,by rw [List.take_add_one,hkx.out];exact congrArg (Value.int .i64) (overR_snoc its 0 _ key).symm,by clear hbw0;exact below_auto⟩
   case measure=>simp [intOf];omega
  ·obtain rfl:k=n1:=by omega
   rw [show rs.take k=rs from List.take_of_length_le (by rw [HN1.out];exact Nat.le_refl _)]
   clear HR HN1 hlt
   generalize hm:overR its 0 rs=m0 at *
   clear hm hk
   go_wp2
   obtain ⟨wo,rfl⟩:∃ x,x=wr:=⟨_,rfl⟩
   go_loopw [5,26] (fun nv i wr=>∃ q:Nat,q≤n2∧i=.int .i64 q∧nv=.int .i64 (overS its m0 (ss.take q))∧Below wo.heap.size wo wr) (fun _ i _=>n2-(intOf i).toNat)
   case atStart=>exact ⟨0,Nat.zero_le _,rfl,rfl,Below.refl _ _⟩
   case round =>
    obtain ⟨q,hq,rfl,rfl,hbq⟩:=hrel
    have hq0:Below w.heap.size w wr:=hbw0.trans (hbq.mono (by omega))
    have hsq:=hq0.size
    have hsq2:=hbq.size
    by_cases hlt:q<n2
    ·obtain ⟨b,o,rfl,hb,⟨c0,c1,c2,c3⟩,l1,l2⟩:=HS.out q hlt
     have hlt':(q:Int)<(n2:Int):=by omega
     have hkx:=hid (sp_some (ss:=ss) (k:=q) (by rw [HN2.out];exact hlt))
     have kk:=fun j=>hq0.cell (p:=⟨b,j,none⟩) hb
     have d0:=(kk _).trans c0;have d1:=(kk _).trans c1;have d2:=(kk _).trans c2;have d3:=(kk _).trans c3
     clear c0 c1 c2 c3 kk
     generalize hs:ss[q]?.getD default=s at *
     clear hs
     go_wp2_with (go_at_call 229;with_reducible refine mQ (HO.out _ (by exact below_auto) _ _ _ _ l1 l2) ?_;intro w3 hb3 hc3 hf3 hz3;intros)
     go_roundw
     case rel=>exact ⟨q+1,by omega,by go_num,by rw [List.take_add_one,hkx.out];exact congrArg (Value.int .i64) (overS_snoc its m0 _ s).symm,by clear hq0;exact below_auto⟩
     case measure=>simp [intOf];omega
    ·obtain rfl:q=n2:=by omega
     rw [show ss.take q=ss from List.take_of_length_le (by rw [HN2.out];exact Nat.le_refl _),HV.out]
     go_wp2
     go_ret
     exact ⟨rfl,by exact below_auto⟩

end Go.Proofs.YtdeeoddacnealaaGreat.C