/- Several texts as one: CJ CK CL CM CN. -/
import Derived.Test.YtdeeoddacnealaaGreatMCH
import Derived.Test.YtdeeoddacnealaaGreatMN
import Derived.Test.YtdeeoddacnealaaGreatMNC
import Derived.Test.YtdeeoddacnealaaGreatMCE
import Derived.Test.YtdeeoddacnealaaGreatMNK
import Derived.Deep.RegionLaw
set_option linter.unusedVariables false
set_option linter.unusedSimpArgs false
namespace Go.Proofs.YtdeeoddacnealaaGreat.C
open Go.RowKit Fl
open Go.Proofs.YtdeeoddacnealaaGreat.K (fCells own_fat floatInfo)
open Go.Proofs.YtdeeoddacnealaaGreat.N (vCells vCells_len encV_one own_satV spanInfo sat_cells)

theorem fCells_len (xs:List Nat):(fCells xs).length=xs.length:=by simp [fCells]
theorem fCells_one (xs:List Nat):∀ u∈fCells xs,u.oneCell'=true:=by
 intro u hu
 obtain ⟨x,_,rfl⟩:=List.mem_map.1 hu
 rfl
theorem vCells_one (xs:List SpanV):∀ u∈vCells xs,u.oneCell'=true:=by
 intro u hu
 obtain ⟨x,_,hx⟩:=List.mem_flatMap.1 hu
 exact encV_one x u hx
theorem fat_cells {w:World} {a:Option Addr} {xs:List Nat} (h:FAt w a xs) (h0:0<xs.length):∃ b o,a=some ⟨b,o,none⟩∧b<w.heap.size∧∀ j u,(fCells xs)[j]? = some u→w.cell? ((⟨b,o,none⟩:Addr).add j)=some u:=by
 rcases h.row with h1|⟨b,o,rfl,hb,hc⟩
 ·rw [h1] at h0;simp at h0
 ·refine ⟨b,o,rfl,hb,fun j u hu=>?_⟩
  have hj:j<xs.length:=by rw [←fCells_len];exact (List.getElem?_eq_some_iff.1 hu).1
  unfold fCells at hu
  rw [List.getElem?_map,List.getElem?_eq_getElem hj] at hu
  have:=hc j hj
  rw [List.getElem?_eq_getElem hj] at this
  rw [Addr.add_lit]
  simpa [←Option.some.inj hu] using this
def cfRet (xs:List Nat) (n:Nat) (w:World) (e:Ending) (w':World):Prop :=
 ∃ a c,e=.returned (.slice a n c)∧FAt w' a xs∧(xs≠[]→∀ b o,a=some ⟨b,o,none⟩→w.heap.size≤b∧∃ cur T,w'.heap[b]? = some (.cells cur T (0,0)))∧Below w.heap.size w w'
theorem cf_nil (w:World) (a:Option Addr) (n c:Nat):(binOp .eql 38 (.slice a n c) (.slice none 0 0)).run Tryz.prog w=.ok (.bool a.isNone) w:=Go.Lib.run_eql_slice_nil w _ _ a n c 0 0 Tryz.underlying38
set_option maxRecDepth 100000 in
theorem cf_any (a:Option Addr) (c n:Nat) (xs:List Nat) (w:World) (hn:xs.length=n) (hl:n≤1000) (h:FAt w a xs) :
  Calls Tryz.prog 117 #[.slice a n c] w (cfRet xs n w):=by
 have hE:=cf_nil
 by_cases h0:n=0
 ·subst h0
  obtain rfl:xs=[]:=List.eq_nil_of_length_eq_zero hn
  have fin:∀ a c W,Below w.heap.size w W→cfRet [] 0 w (.returned (.slice a 0 c)) W:=fun a c W hb=>⟨a,c,rfl,⟨.inl rfl,fun i hi=>absurd hi (Nat.not_lt_zero _),by simp⟩,fun e=>absurd rfl e,hb⟩
  have hfin:=hid fin
  clear fin h hn hl
  rcases a with _|p
  ·go_enter Tryz.func117,Tryz.ntmps117
   go_wp2
   go_ret
   exact hfin.out _ _ _ (by exact below_auto)
  ·go_enter Tryz.func117,Tryz.ntmps117
   go_wp2
   go_ret
   exact hfin.out _ _ _ (by exact below_auto)
 ·obtain ⟨b,o,rfl,hb,hc⟩:∃ b o,a=some ⟨b,o,none⟩∧b<w.heap.size∧∀ j u,(fCells xs)[j]? = some u→w.cell? ((⟨b,o,none⟩:Addr).add j)=some u:=fat_cells h (by omega)
  obtain ⟨i0,hi0,hz0,hzs,hzb⟩:=info_parts floatInfo
  have hb1:Below w.heap.size w (w.alloc (.cells #[] 57)):=by exact below_auto
  have hown1:(w.alloc (.cells #[] 57)).ownsRow w.heap.size 57 1 (.slice (some ⟨w.heap.size,0,none⟩) 0 0) 0 [] :=
   ⟨rfl,.inr ⟨w.heap.size,0,#[],rfl,Nat.le_refl _,heap_alloc_new w _,Nat.le_refl _,by unfold maxLen;omega,rfl,rfl⟩⟩
  obtain ⟨v',w',hr,h2,h3⟩:=run_append_own2 (P:=Tryz.prog) (w.alloc (.cells #[] 57)) w.heap.size 38 57 i0 _ 1 8 Tryz.underlying38 hi0 hz0 hzs hzb rfl (by omega) _ 0 [] hown1 ⟨b,o,none⟩ n c (fCells xs) (by have:=fCells_len xs;omega)
   (fun j u hj=>by have:=hc j u hj;rw [Addr.add_lit] at this ⊢;exact (hb1.cell (p:=⟨b,o+j,none⟩) hb).trans this) (fCells_one xs) (by omega) (by unfold maxLen;omega) (by omega) (by simp)
  rw [List.nil_append,Nat.zero_add] at h2
  have hv:∃ va vc,v'=.slice va n vc:=by
   rcases h2.2 with ⟨h4,h5⟩|⟨g,cap,cur,h4,_⟩
   ·omega
   ·exact ⟨_,_,h4⟩
  obtain ⟨a',c',rfl⟩:=hv
  have fin:cfRet xs n w (.returned (.slice a' n c')) w':=⟨a',c',rfl,own_fat hn h2 (by omega) (fun x hx=>(by obtain ⟨i,hi,rfl⟩:=List.getElem_of_mem hx;have:=h.lt i hi;rwa [List.getElem?_eq_getElem hi] at this)),fun _ b o e=>(by
   rcases h2.2 with ⟨h4,h5⟩|⟨g,cap,cur,h4,h5,h6,_⟩
   ·omega
   ·injection h4 with h7 _ _;rw [e] at h7;injection h7 with h7;injection h7 with h8 h9 h10;subst h8;exact ⟨h5,cur,_,h6⟩),⟨h3.1.os.trans hb1.os,h3.1.tape.trans hb1.tape,h3.1.output.trans hb1.output,Nat.le_trans hb1.size h3.1.size,fun k hk=>(h3.1.block k (by simp;omega) (by simp [Value.ownBlock];omega)).trans (hb1.block k hk)⟩⟩
  have hfin:=hid fin
  clear hb1 hown1 fin hz0 hzs hzb h2 h3 hc h
  go_enter Tryz.func117,Tryz.ntmps117
  go_wp2_with (at_builtin;refine Lib.wpList_append_run _ rfl _ _ _ _ rfl _ _ rfl rfl _ _ (hr _) ?_)
  go_ret
  exact hfin.out
def csRet (xs:List SpanV) (n:Nat) (w:World) (e:Ending) (w':World):Prop :=
 ∃ a c,e=.returned (.slice a n c)∧SAt w' a xs∧(xs≠[]→∀ b o,a=some ⟨b,o,none⟩→w.heap.size≤b)∧Below w.heap.size w w'
theorem cs_nil (w:World) (a:Option Addr) (n c:Nat):(binOp .eql 39 (.slice a n c) (.slice none 0 0)).run Tryz.prog w=.ok (.bool a.isNone) w:=Go.Lib.run_eql_slice_nil w _ _ a n c 0 0 Tryz.underlying39
set_option maxRecDepth 100000 in
theorem cs_any (a:Option Addr) (c n:Nat) (xs:List SpanV) (w:World) (hn:xs.length=n) (hl:n≤1000) (h:SAt w a xs) :
  Calls Tryz.prog 118 #[.slice a n c] w (csRet xs n w):=by
 have hE:=cs_nil
 by_cases h0:n=0
 ·subst h0
  obtain rfl:xs=[]:=List.eq_nil_of_length_eq_zero hn
  have fin:∀ a c W,Below w.heap.size w W→csRet [] 0 w (.returned (.slice a 0 c)) W:=fun a c W hb=>⟨a,c,rfl,⟨.inl rfl,fun i hi=>absurd hi (Nat.not_lt_zero _),by simp⟩,fun e=>absurd rfl e,hb⟩
  have hfin:=hid fin
  clear fin h hn hl
  rcases a with _|p
  ·go_enter Tryz.func118,Tryz.ntmps118
   go_wp2
   go_ret
   exact hfin.out _ _ _ (by exact below_auto)
  ·go_enter Tryz.func118,Tryz.ntmps118
   go_wp2
   go_ret
   exact hfin.out _ _ _ (by exact below_auto)
 ·obtain ⟨b,o,rfl,hb,hc⟩:∃ b o,a=some ⟨b,o,none⟩∧b<w.heap.size∧∀ j u,(vCells xs)[j]? = some u→w.cell? ((⟨b,o,none⟩:Addr).add j)=some u:=sat_cells h (by omega)
  obtain ⟨i0,hi0,hz0,hzs,hzb⟩:=info_parts spanInfo
  have hb1:Below w.heap.size w (w.alloc (.cells #[] 150)):=by exact below_auto
  have hown1:(w.alloc (.cells #[] 150)).ownsRow w.heap.size 150 4 (.slice (some ⟨w.heap.size,0,none⟩) 0 0) 0 [] :=
   ⟨rfl,.inr ⟨w.heap.size,0,#[],rfl,Nat.le_refl _,heap_alloc_new w _,Nat.le_refl _,by unfold maxLen;omega,rfl,rfl⟩⟩
  obtain ⟨v',w',hr,h2,h3⟩:=run_append_own2 (P:=Tryz.prog) (w.alloc (.cells #[] 150)) w.heap.size 39 150 i0 _ 4 24 Tryz.underlying39 hi0 hz0 hzs hzb rfl (by omega) _ 0 [] hown1 ⟨b,o,none⟩ n c (vCells xs) (by have:=vCells_len xs;omega)
   (fun j u hj=>by have:=hc j u hj;rw [Addr.add_lit] at this ⊢;exact (hb1.cell (p:=⟨b,o+j,none⟩) hb).trans this) (vCells_one xs) (by omega) (by unfold maxLen;omega) (by omega) (by simp)
  rw [List.nil_append,Nat.zero_add] at h2
  have hv:∃ va vc,v'=.slice va n vc:=by
   rcases h2.2 with ⟨h4,h5⟩|⟨g,cap,cur,h4,_⟩
   ·omega
   ·exact ⟨_,_,h4⟩
  obtain ⟨a',c',rfl⟩:=hv
  have fin:csRet xs n w (.returned (.slice a' n c')) w':=⟨a',c',rfl,own_satV hn h2 (by omega) h.lt,fun _ b o e=>(h2.lt b (by rw [e];rcases h2.2 with ⟨h4,h5⟩|⟨g,cap,cur,h4,_⟩;(omega);(injection h4 with h6 _ _;rw [e] at h6;injection h6 with h7;injection h7 with h8 h9 h10;subst h9;rfl))).1,⟨h3.1.os.trans hb1.os,h3.1.tape.trans hb1.tape,h3.1.output.trans hb1.output,Nat.le_trans hb1.size h3.1.size,fun k hk=>(h3.1.block k (by simp;omega) (by simp [Value.ownBlock];omega)).trans (hb1.block k hk)⟩⟩
  have hfin:=hid fin
  clear hb1 hown1 fin hz0 hzs hzb h2 h3 hc h
  go_enter Tryz.func118,Tryz.ntmps118
  go_wp2_with (at_builtin;refine Lib.wpList_append_run _ rfl _ _ _ _ rfl _ _ rfl rfl _ _ (hr _) ?_)
  go_ret
  exact hfin.out

structure CloS (w:World) (x:SubV) (r3 r4 r5:Value) (X:World):Prop where
 b:Below w.heap.size w X
 sz:w.heap.size+1<X.heap.size
 q:X.heap[w.heap.size]? = some (.cells #[.int .i64 x.s0,.int .i64 x.s1,.int .i64 x.s2,r3,r4,r5] 41 (0,0))
 q2:X.heap[w.heap.size+1]? = some (.cells #[.int .i64 0,.int .i64 0,.int .i64 0,.slice none 0 0,.slice none 0 0,.slice none 0 0] 41 (0,0))
def okF (B:Nat) (xs:List Nat) (u:Value) (X:World):Prop:=∃ a c,u=.slice a xs.length c∧FAt X a xs∧(xs≠[]→∀ b o,a=some ⟨b,o,none⟩→B<b∧∃ cur T,X.heap[b]? = some (.cells cur T (0,0)))
def okS (B:Nat) (xs:List SpanV) (u:Value) (X:World):Prop:=∃ a c,u=.slice a xs.length c∧SAt X a xs∧(xs≠[]→∀ b o,a=some ⟨b,o,none⟩→B<b)
def ok3 (B:Nat) (x:SubV) (u0 u1 u2:Value) (X:World):Prop:=okF B x.rs u0 X∧okS B x.ss u1 X∧okF B x.ws u2 X
def CloO (w:World) (x:SubV) (X:World):Prop:=CloS w x (.slice x.ra x.rs.length x.rc) (.slice x.sa x.ss.length x.sc) (.slice x.wa x.ws.length x.wc) X
def CloR (w:World) (x:SubV):List Value→World→Prop
 | [],X=>CloO w x X
 | [u0],X=>okF (w.heap.size+1) x.rs u0 X∧CloO w x X
 | [u0,u1],X=>(okF (w.heap.size+1) x.rs u0 X∧okS (w.heap.size+1) x.ss u1 X)∧CloO w x X
 | [u0,u1,u2],X=>ok3 (w.heap.size+1) x u0 u1 u2 X∧CloO w x X
 | [u0,u1,u2,_],X=>ok3 (w.heap.size+1) x u0 u1 u2 X∧CloS w x u0 (.slice x.sa x.ss.length x.sc) (.slice x.wa x.ws.length x.wc) X
 | [u0,u1,u2,_,_],X=>ok3 (w.heap.size+1) x u0 u1 u2 X∧CloS w x u0 u1 (.slice x.wa x.ws.length x.wc) X
 | u0 :: u1 :: u2 :: _,X=>ok3 (w.heap.size+1) x u0 u1 u2 X∧CloS w x u0 u1 u2 X
theorem CloR.early {w:World} {x:SubV}:∀ {ms:List Value} {X:World},ms.length≤2→CloR w x ms X→CloO w x X
 | [],_,_,h=>h
 | [_],_,_,h=>h.2
 | [_,_],_,_,h=>h.2
 | _ :: _ :: _ :: _,_,hl,_=>by simp at hl
theorem obj_kept {b:Nat} {X X':World} (h:∃ cur T,X.heap[b]? = some (.cells cur T (0,0))) (hk:b<X.heap.size→X'.heap[b]? = X.heap[b]?):∃ cur T,X'.heap[b]? = some (.cells cur T (0,0)):=by
 obtain ⟨cur,T,h⟩:=h
 exact ⟨cur,T,(hk (Array.getElem?_eq_some_iff.1 h).1).trans h⟩
theorem okF.below {B:Nat} {xs:List Nat} {u:Value} {X X':World} (h:okF B xs u X) (hb:Below X.heap.size X X'):okF B xs u X':=by
 obtain ⟨a,c,h1,h2,h3⟩:=h
 exact ⟨a,c,h1,h2.below hb,fun h0 b o e=>⟨(h3 h0 b o e).1,obj_kept (h3 h0 b o e).2 fun hk=>hb.block b hk⟩⟩
theorem okS.below {B:Nat} {xs:List SpanV} {u:Value} {X X':World} (h:okS B xs u X) (hb:Below X.heap.size X X'):okS B xs u X':=by
 obtain ⟨a,c,h1,h2,h3⟩:=h
 exact ⟨a,c,h1,h2.below hb,h3⟩
theorem CloS.below {w:World} {x:SubV} {r3 r4 r5:Value} {X X':World} (h:CloS w x r3 r4 r5 X) (hb:Below X.heap.size X X'):CloS w x r3 r4 r5 X' :=
 ⟨h.b.trans (hb.mono h.b.size),Nat.lt_of_lt_of_le h.sz hb.size,(hb.block _ (by have:=h.sz;omega)).trans h.q,(hb.block _ h.sz).trans h.q2⟩
theorem CloS.set {w:World} {x:SubV} {r3 r4 r5 s3 s4 s5:Value} {X:World} (h:CloS w x r3 r4 r5 X) (i:Nat) (v:Value) (hi:(#[.int .i64 x.s0,.int .i64 x.s1,.int .i64 x.s2,r3,r4,r5]:Array Value).setIfInBounds i v = #[.int .i64 x.s0,.int .i64 x.s1,.int .i64 x.s2,s3,s4,s5]) {u0 u1 u2:Value} (k:ok3 (w.heap.size+1) x u0 u1 u2 X) :
  ok3 (w.heap.size+1) x u0 u1 u2 (X.setCell ⟨w.heap.size,i,none⟩ v)∧CloS w x s3 s4 s5 (X.setCell ⟨w.heap.size,i,none⟩ v):=by
 obtain ⟨q,g⟩:=K.set1 (i:=i) h.q v
 rw [hi] at q
 have hs:=h.sz
 have hn:∀ k,k<X.heap.size→k≠w.heap.size→(X.setCell ⟨w.heap.size,i,none⟩ v).heap[k]? = X.heap[k]?:=fun k hk hn=>g.block k hk fun e=>hn (Option.some.inj e)
 have hf:∀ {xs:List Nat} {u:Value},okF (w.heap.size+1) xs u X→okF (w.heap.size+1) xs u (X.setCell ⟨w.heap.size,i,none⟩ v):=fun ⟨a,c,h1,h2,h3⟩=>⟨a,c,h1,fat_kept h2 fun h0 b o e=>by
  rcases h2.row with h4|⟨b',o',h5,h6,_⟩
  ·exact absurd h4 h0
  ·rw [e] at h5;cases h5;exact hn b h6 (by have:=(h3 h0 b o e).1;omega),fun h0 b o e=>⟨(h3 h0 b o e).1,obj_kept (h3 h0 b o e).2 fun hk=>hn b hk (by have:=(h3 h0 b o e).1;omega)⟩⟩
 have hg:∀ {xs:List SpanV} {u:Value},okS (w.heap.size+1) xs u X→okS (w.heap.size+1) xs u (X.setCell ⟨w.heap.size,i,none⟩ v):=fun ⟨a,c,h1,h2,h3⟩=>⟨a,c,h1,sat_kept h2 fun h0 b o e=>by
  rcases h2.row with h4|⟨b',o',h5,h6,_⟩
  ·exact absurd h4 h0
  ·rw [e] at h5;cases h5;exact hn b h6 (by have:=h3 h0 b o e;omega),h3⟩
 exact ⟨⟨hf k.1,hg k.2.1,hf k.2.2⟩,⟨h.b.trans (grown_below g (Nat.le_refl _) h.b.size),Nat.lt_of_lt_of_le hs g.size,q,(hn _ hs (by omega)).trans h.q2⟩⟩

structure SameS (y x:SubV):Prop where
 s0:y.s0=x.s0
 s1:y.s1=x.s1
 s2:y.s2=x.s2
 rs:y.rs=x.rs
 ss:y.ss=x.ss
 ws:y.ws=x.ws
def CloRet (x:SubV) (w:World) (e:Ending) (w':World):Prop :=
 ∃ y:SubV,e=.returned (.agg #[.int .i64 y.s0,.int .i64 y.s1,.int .i64 y.s2,.slice y.ra y.rs.length y.rc,.slice y.sa y.ss.length y.sc,.slice y.wa y.ws.length y.wc])∧SubL (fun k=>w.heap.size≤k) y w'∧SameS y x∧Below w.heap.size w w'

def FzO (y:SubV) (X:World):Prop:=y.rs≠[]→∀ b o,y.ra=some ⟨b,o,none⟩→∃ cur T,X.heap[b]? = some (.cells cur T (0,0))
def CloRet2 (x:SubV) (w:World) (e:Ending) (w':World):Prop :=
 ∃ y:SubV,e=.returned (.agg #[.int .i64 y.s0,.int .i64 y.s1,.int .i64 y.s2,.slice y.ra y.rs.length y.rc,.slice y.sa y.ss.length y.sc,.slice y.wa y.ws.length y.wc])∧SubL (fun k=>w.heap.size≤k) y w'∧SameS y x∧Below w.heap.size w w'∧FzO y w'
theorem ls6 {ms:List Value} (h:ms.length=6):∃ a b c d e f,ms=[a,b,c,d,e,f]:=by
 match ms,h with
 | [a,b,c,d,e,f],_=>exact ⟨a,b,c,d,e,f,rfl⟩
theorem K0 {B:Nat} {xs:List Nat} {a:Option Addr} {X W:World} (h:FAt X a xs) (hn:xs≠[]→∀ b o,a=some ⟨b,o,none⟩→B<b) (hb:∀ k,k<X.heap.size→B<k→W.heap[k]? = X.heap[k]?):FAt W a xs :=
 fat_kept h fun h0 b o e=>by
  rcases h.row with h4|⟨b',o',h5,h6,_⟩
  ·exact absurd h4 h0
  ·rw [e] at h5;cases h5;exact hb b h6 (hn h0 b o e)
theorem K1 {B:Nat} {xs:List SpanV} {a:Option Addr} {X W:World} (h:SAt X a xs) (hn:xs≠[]→∀ b o,a=some ⟨b,o,none⟩→B<b) (hb:∀ k,k<X.heap.size→B<k→W.heap[k]? = X.heap[k]?):SAt W a xs :=
 sat_kept h fun h0 b o e=>by
  rcases h.row with h4|⟨b',o',h5,h6,_⟩
  ·exact absurd h4 h0
  ·rw [e] at h5;cases h5;exact hb b h6 (hn h0 b o e)

set_option maxHeartbeats 4000000 in
set_option maxRecDepth 100000 in
theorem clone2_any (x:SubV) (w:World) (hx:x.At w) (h1:x.rs.length≤16) (h2:x.ss.length≤8) (h3:x.ws.length≤16) :
  Calls Tryz.prog 48 #[.agg #[.int .i64 x.s0,.int .i64 x.s1,.int .i64 x.s2,.slice x.ra x.rs.length x.rc,.slice x.sa x.ss.length x.sc,.slice x.wa x.ws.length x.wc]] w (CloRet2 x w):=by
 have HF0:=hid fun (X:World) (hb:Below w.heap.size w X)=>cf_any x.ra x.rc x.rs.length x.rs X rfl (by omega) (hx.r.below hb)
 have HS0:=hid fun (X:World) (hb:Below w.heap.size w X)=>cs_any x.sa x.sc x.ss.length x.ss X rfl (by omega) (hx.s.below hb)
 have HW0:=hid fun (X:World) (hb:Below w.heap.size w X)=>cf_any x.wa x.wc x.ws.length x.ws X rfl (by omega) (hx.w.below hb)
 clear hx h1 h2 h3
 go_enter Tryz.func48,Tryz.ntmps48
 go_upto_region 1 with fail
 generalize hW1:World.alloc _ _=w1
 have hI:CloO w x w1:=by
  have hb:Below w.heap.size w w1:=by rw [←hW1];exact below_auto
  exact ⟨hb,by rw [←hW1];simp,by rw [←hW1];exact (two_alloc w _ _).1,by rw [←hW1];exact (two_alloc w _ _).2⟩
 clear hW1
 refine wp_region_chainV [(0,fun _=>.pointer (some ⟨w.heap.size,3,none⟩)),(0,fun _=>.slice x.ra x.rs.length x.rc),(1,fun ms=>ms.getD 0 undef),(0,fun _=>.pointer (some ⟨w.heap.size,4,none⟩)),(0,fun _=>.slice x.sa x.ss.length x.sc),(2,fun ms=>ms.getD 1 undef),(0,fun _=>.pointer (some ⟨w.heap.size,5,none⟩)),(0,fun _=>.slice x.wa x.ws.length x.wc),(3,fun ms=>ms.getD 2 undef),(0,fun _=>.pointer (some ⟨w.heap.size,3,none⟩)),(4,fun ms=>ms.getD 3 undef),(0,fun _=>.pointer (some ⟨w.heap.size,4,none⟩)),(5,fun ms=>ms.getD 4 undef),(0,fun _=>.pointer (some ⟨w.heap.size,5,none⟩)),(6,fun ms=>ms.getD 5 undef)] (CloR w x) (fun _ _=>False) [2,5,8,10,12,14] rfl (by kernel_rfl) (by kernel_rfl) (by kernel_rfl) (by decide) (by decide) (CloS.below hI (Below.drew (Below.refl _ _))) ?_ ?_ ?_
 ·simp only [StepsV,List.nil_append,List.cons_append,Nat.zero_add,Nat.reduceAdd]
  refine ⟨?p0,?l0,?c0,?p1,?l1,?c1,?p2,?l2,?c2,?p3,?s0,?p4,?s1,?p5,?s2,trivial⟩
  case p0 =>
   intro ms X g1 g2 hx
   refine mM ?_
   generalize hR:(fun v w'=>(_→v=_)∧_)=RR
   have HR:=hid hR
   have HXX:=hid hx
   clear hR g1 g2 hx
   try refine mV ?_
   go_wp2_with fail
   have hR:=HR.out
   subst hR
   exact ⟨rfl,fun _=>rfl,HXX.out⟩
  case l0 =>
   intro ms X g1 g2 hx
   have hE:=CloR.early (Nat.le_trans g2 (by decide +kernel)) hx
   obtain ⟨b0,b1,b2,b3,b4,b5⟩:=row6 hE.q
   have hlt:=hE.sz
   have hlt':w.heap.size<X.heap.size:=by omega
   refine mM ?_
   generalize hR:(fun v w'=>(_→v=_)∧_)=RR
   have HR:=hid hR
   have HXX:=hid hx
   clear hR g1 g2 hx hE
   try refine mV ?_
   go_wp2_with fail
   have hR:=HR.out
   subst hR
   exact ⟨rfl,fun _=>rfl,HXX.out⟩
  case c0 =>
   intro ms X g1 g2 hx
   have hl:ms.length=0:=Nat.le_antisymm (Nat.le_trans g2 (by decide +kernel)) (Nat.le_trans (by decide +kernel) g1)
   obtain rfl:=P.ls0 hl
   have h0:=hx
   refine mM ?_
   generalize hR:(fun v w'=>(_→v=_)∧_)=RR
   have HR:=hid hR
   clear hR g1 g2 hl
   refine mV ?_
   have HC:=hid (HF0.out X h0.b)
   go_wp2_with fail
   refine HC.out.mono ?_
   rintro e X2 ⟨a',c',rfl,ha',hf',hb'⟩
   have HE:Hid (CloR w x [.slice a' x.rs.length c'] X2):=hid (⟨⟨a',c',rfl,ha',fun h0' b o e=>⟨by have:=(hf' h0' b o e).1;have:=h0.sz;omega,(hf' h0' b o e).2⟩⟩,h0.below hb'⟩)
   clear HC
   go_wp2_with fail
   have hR:=HR.out
   subst hR
   exact ⟨rfl,fun _=>rfl,HE.out⟩
  case p1 =>
   intro ms X g1 g2 hx
   refine mM ?_
   generalize hR:(fun v w'=>(_→v=_)∧_)=RR
   have HR:=hid hR
   have HXX:=hid hx
   clear hR g1 g2 hx
   try refine mV ?_
   go_wp2_with fail
   have hR:=HR.out
   subst hR
   exact ⟨rfl,fun _=>rfl,HXX.out⟩
  case l1 =>
   intro ms X g1 g2 hx
   have hE:=CloR.early (Nat.le_trans g2 (by decide +kernel)) hx
   obtain ⟨b0,b1,b2,b3,b4,b5⟩:=row6 hE.q
   have hlt:=hE.sz
   have hlt':w.heap.size<X.heap.size:=by omega
   refine mM ?_
   generalize hR:(fun v w'=>(_→v=_)∧_)=RR
   have HR:=hid hR
   have HXX:=hid hx
   clear hR g1 g2 hx hE
   try refine mV ?_
   go_wp2_with fail
   have hR:=HR.out
   subst hR
   exact ⟨rfl,fun _=>rfl,HXX.out⟩
  case c1 =>
   intro ms X g1 g2 hx
   have hl:ms.length=1:=Nat.le_antisymm (Nat.le_trans g2 (by decide +kernel)) (Nat.le_trans (by decide +kernel) g1)
   obtain ⟨v0,rfl⟩:=P.ls1 hl
   obtain ⟨k0,h0⟩:=hx
   refine mM ?_
   generalize hR:(fun v w'=>(_→v=_)∧_)=RR
   have HR:=hid hR
   clear hR g1 g2 hl
   refine mV ?_
   have HC:=hid (HS0.out X h0.b)
   go_wp2_with fail
   refine HC.out.mono ?_
   rintro e X2 ⟨a',c',rfl,ha',hf',hb'⟩
   have HE:Hid (CloR w x [v0,.slice a' x.ss.length c'] X2):=hid (⟨⟨k0.below hb',⟨a',c',rfl,ha',fun h0' b o e=>by have:=hf' h0' b o e;have:=h0.sz;omega⟩⟩,h0.below hb'⟩)
   clear HC
   go_wp2_with fail
   have hR:=HR.out
   subst hR
   exact ⟨rfl,fun _=>rfl,HE.out⟩
  case p2 =>
   intro ms X g1 g2 hx
   refine mM ?_
   generalize hR:(fun v w'=>(_→v=_)∧_)=RR
   have HR:=hid hR
   have HXX:=hid hx
   clear hR g1 g2 hx
   try refine mV ?_
   go_wp2_with fail
   have hR:=HR.out
   subst hR
   exact ⟨rfl,fun _=>rfl,HXX.out⟩
  case l2 =>
   intro ms X g1 g2 hx
   have hE:=CloR.early (Nat.le_trans g2 (by decide +kernel)) hx
   obtain ⟨b0,b1,b2,b3,b4,b5⟩:=row6 hE.q
   have hlt:=hE.sz
   have hlt':w.heap.size<X.heap.size:=by omega
   refine mM ?_
   generalize hR:(fun v w'=>(_→v=_)∧_)=RR
   have HR:=hid hR
   have HXX:=hid hx
   clear hR g1 g2 hx hE
   try refine mV ?_
   go_wp2_with fail
   have hR:=HR.out
   subst hR
   exact ⟨rfl,fun _=>rfl,HXX.out⟩
  case c2 =>
   intro ms X g1 g2 hx
   have hl:ms.length=2:=Nat.le_antisymm (Nat.le_trans g2 (by decide +kernel)) (Nat.le_trans (by decide +kernel) g1)
   obtain ⟨v0,v1,rfl⟩:=P.ls2 hl
   obtain ⟨⟨k0,k1⟩,h0⟩:=hx
   refine mM ?_
   generalize hR:(fun v w'=>(_→v=_)∧_)=RR
   have HR:=hid hR
   clear hR g1 g2 hl
   refine mV ?_
   have HC:=hid (HW0.out X h0.b)
   go_wp2_with fail
   refine HC.out.mono ?_
   rintro e X2 ⟨a',c',rfl,ha',hf',hb'⟩
   have HE:Hid (CloR w x [v0,v1,.slice a' x.ws.length c'] X2):=hid (⟨⟨k0.below hb',k1.below hb',⟨a',c',rfl,ha',fun h0' b o e=>⟨by have:=(hf' h0' b o e).1;have:=h0.sz;omega,(hf' h0' b o e).2⟩⟩⟩,h0.below hb'⟩)
   clear HC
   go_wp2_with fail
   have hR:=HR.out
   subst hR
   exact ⟨rfl,fun _=>rfl,HE.out⟩
  case p3 =>
   intro ms X g1 g2 hx
   refine mM ?_
   generalize hR:(fun v w'=>(_→v=_)∧_)=RR
   have HR:=hid hR
   have HXX:=hid hx
   clear hR g1 g2 hx
   try refine mV ?_
   go_wp2_with fail
   have hR:=HR.out
   subst hR
   exact ⟨rfl,fun _=>rfl,HXX.out⟩
  case s0 =>
   intro ms X g1 g2 hx
   have hl:ms.length=3:=Nat.le_antisymm (Nat.le_trans g2 (by decide +kernel)) (Nat.le_trans (by decide +kernel) g1)
   obtain ⟨v0,v1,v2,rfl⟩:=P.ls3 hl
   obtain ⟨⟨⟨a0,c0,e0,h0',n0⟩,⟨a1,c1,e1,h1',n1⟩,⟨a2,c2,e2,h2',n2⟩⟩,h0⟩:=hx
   subst e0 e1 e2
   have k0:ok3 (w.heap.size+1) x (.slice a0 x.rs.length c0) (.slice a1 x.ss.length c1) (.slice a2 x.ws.length c2) X:=⟨⟨a0,c0,rfl,h0',n0⟩,⟨a1,c1,rfl,h1',n1⟩,⟨a2,c2,rfl,h2',n2⟩⟩
   clear h0' n0 h1' n1 h2' n2
   have hq:=h0.q
   have f3:X.frozen? ⟨w.heap.size,3,none⟩=false:=by simp [World.frozen?,hq]
   obtain ⟨b0,b1,b2,b3,b4,b5⟩:=row6 hq
   have hz:=h0.sz
   have hz':w.heap.size<X.heap.size:=by omega
   refine mM ?_
   generalize hR:(fun v w'=>(_→v=_)∧_)=RR
   have HR2:=hid hR
   clear hR g1 g2 hl hq
   refine mV ?_
   have HE:Hid (CloR w x [.slice a0 x.rs.length c0,.slice a1 x.ss.length c1,.slice a2 x.ws.length c2,undef] (X.setCell ⟨w.heap.size,3,none⟩ (.slice a0 x.rs.length c0))):=hid (CloS.set h0 3 (.slice a0 x.rs.length c0) rfl k0)
   clear h0 k0
   go_wp2_with fail
   have hR:=HR2.out
   subst hR
   exact ⟨rfl,fun h=>absurd rfl h,HE.out⟩
  case p4 =>
   intro ms X g1 g2 hx
   refine mM ?_
   generalize hR:(fun v w'=>(_→v=_)∧_)=RR
   have HR:=hid hR
   have HXX:=hid hx
   clear hR g1 g2 hx
   try refine mV ?_
   go_wp2_with fail
   have hR:=HR.out
   subst hR
   exact ⟨rfl,fun _=>rfl,HXX.out⟩
  case s1 =>
   intro ms X g1 g2 hx
   have hl:ms.length=4:=Nat.le_antisymm (Nat.le_trans g2 (by decide +kernel)) (Nat.le_trans (by decide +kernel) g1)
   obtain ⟨v0,v1,v2,v3,rfl⟩:=P.ls4 hl
   obtain ⟨⟨⟨a0,c0,e0,h0',n0⟩,⟨a1,c1,e1,h1',n1⟩,⟨a2,c2,e2,h2',n2⟩⟩,h0⟩:=hx
   subst e0 e1 e2
   have k0:ok3 (w.heap.size+1) x (.slice a0 x.rs.length c0) (.slice a1 x.ss.length c1) (.slice a2 x.ws.length c2) X:=⟨⟨a0,c0,rfl,h0',n0⟩,⟨a1,c1,rfl,h1',n1⟩,⟨a2,c2,rfl,h2',n2⟩⟩
   clear h0' n0 h1' n1 h2' n2
   have hq:=h0.q
   have f4:X.frozen? ⟨w.heap.size,4,none⟩=false:=by simp [World.frozen?,hq]
   obtain ⟨b0,b1,b2,b3,b4,b5⟩:=row6 hq
   have hz:=h0.sz
   have hz':w.heap.size<X.heap.size:=by omega
   refine mM ?_
   generalize hR:(fun v w'=>(_→v=_)∧_)=RR
   have HR2:=hid hR
   clear hR g1 g2 hl hq
   refine mV ?_
   have HE:Hid (CloR w x [.slice a0 x.rs.length c0,.slice a1 x.ss.length c1,.slice a2 x.ws.length c2,v3,undef] (X.setCell ⟨w.heap.size,4,none⟩ (.slice a1 x.ss.length c1))):=hid (CloS.set h0 4 (.slice a1 x.ss.length c1) rfl k0)
   clear h0 k0
   go_wp2_with fail
   have hR:=HR2.out
   subst hR
   exact ⟨rfl,fun h=>absurd rfl h,HE.out⟩
  case p5 =>
   intro ms X g1 g2 hx
   refine mM ?_
   generalize hR:(fun v w'=>(_→v=_)∧_)=RR
   have HR:=hid hR
   have HXX:=hid hx
   clear hR g1 g2 hx
   try refine mV ?_
   go_wp2_with fail
   have hR:=HR.out
   subst hR
   exact ⟨rfl,fun _=>rfl,HXX.out⟩
  case s2 =>
   intro ms X g1 g2 hx
   have hl:ms.length=5:=Nat.le_antisymm (Nat.le_trans g2 (by decide +kernel)) (Nat.le_trans (by decide +kernel) g1)
   obtain ⟨v0,v1,v2,v3,v4,rfl⟩:=P.ls5 hl
   obtain ⟨⟨⟨a0,c0,e0,h0',n0⟩,⟨a1,c1,e1,h1',n1⟩,⟨a2,c2,e2,h2',n2⟩⟩,h0⟩:=hx
   subst e0 e1 e2
   have k0:ok3 (w.heap.size+1) x (.slice a0 x.rs.length c0) (.slice a1 x.ss.length c1) (.slice a2 x.ws.length c2) X:=⟨⟨a0,c0,rfl,h0',n0⟩,⟨a1,c1,rfl,h1',n1⟩,⟨a2,c2,rfl,h2',n2⟩⟩
   clear h0' n0 h1' n1 h2' n2
   have hq:=h0.q
   have f5:X.frozen? ⟨w.heap.size,5,none⟩=false:=by simp [World.frozen?,hq]
   obtain ⟨b0,b1,b2,b3,b4,b5⟩:=row6 hq
   have hz:=h0.sz
   have hz':w.heap.size<X.heap.size:=by omega
   refine mM ?_
   generalize hR:(fun v w'=>(_→v=_)∧_)=RR
   have HR2:=hid hR
   clear hR g1 g2 hl hq
   refine mV ?_
   have HE:Hid (CloR w x [.slice a0 x.rs.length c0,.slice a1 x.ss.length c1,.slice a2 x.ws.length c2,v3,v4,undef] (X.setCell ⟨w.heap.size,5,none⟩ (.slice a2 x.ws.length c2))):=hid (CloS.set h0 5 (.slice a2 x.ws.length c2) rfl k0)
   clear h0 k0
   go_wp2_with fail
   have hR:=HR2.out
   subst hR
   exact ⟨rfl,fun h=>absurd rfl h,HE.out⟩
 ·intro ms X hl hx
  obtain ⟨v0,v1,v2,v3,v4,v5,rfl⟩:=ls6 hl
  obtain ⟨⟨⟨a0,c0,rfl,h0,n0⟩,⟨a1,c1,rfl,h1,n1⟩,⟨a2,c2,rfl,h2,n2⟩⟩,hq⟩:=hx
  refine mV ?_
  obtain ⟨b0,b1,b2,b3,b4,b5⟩:=row6 hq.q
  have hz:=hq.sz
  have hz':w.heap.size<X.heap.size:=by omega
  obtain ⟨d0,d1,d2,d3,d4,d5⟩:=row6 hq.q2
  have hfz:∀ j,X.frozen? ⟨w.heap.size+1,j,none⟩=false:=fun j=>by simp [World.frozen?,hq.q2]
  have z0:=hfz 0
  have z1:=hfz 1
  have z2:=hfz 2
  have z3:=hfz 3
  have z4:=hfz 4
  have z5:=hfz 5
  have hq0:=hq.q2
  obtain ⟨q1,g1⟩:=K.set6 hq0 (.int .i64 x.s0) (.int .i64 x.s1) (.int .i64 x.s2) (.slice a0 x.rs.length c0) (.slice a1 x.ss.length c1) (.slice a2 x.ws.length c2)
  have hF:=hid fun (W:World) (hb:∀ k,k<X.heap.size→w.heap.size+1<k→W.heap[k]? = X.heap[k]?) (hb0:Below w.heap.size X W)=>(show CloRet2 x w (.returned (.agg #[.int .i64 x.s0,.int .i64 x.s1,.int .i64 x.s2,.slice a0 x.rs.length c0,.slice a1 x.ss.length c1,.slice a2 x.ws.length c2])) W from ⟨⟨x.s0,x.s1,x.s2,a0,c0,x.rs,a1,c1,x.ss,a2,c2,x.ws⟩,rfl,⟨⟨K0 h0 (fun e b o h=>(n0 e b o h).1) hb,K1 h1 n1 hb,K0 h2 (fun e b o h=>(n2 e b o h).1) hb⟩,fun e b o h=>by have:=(n0 e b o h).1;omega,fun e b o h=>by have:=n1 e b o h;omega,fun e b o h=>by have:=(n2 e b o h).1;omega⟩,⟨rfl,rfl,rfl,rfl,rfl,rfl⟩,hq.b.trans hb0,fun e b o h=>obj_kept (n0 e b o h).2 fun hk=>hb b hk (n0 e b o h).1⟩)
  have HFIN:=hid (hF.out _ (fun k hk hk2=>g1.block k hk (by intro e;have:=Option.some.inj e;omega)) (grown_below g1 (by omega) hq.b.size))
  obtain ⟨y0,y1,y2,y3,y4,y5⟩:=row6 q1
  clear hl hq h0 h1 h2 n0 n1 n2 hI hfz hq0 q1 g1 hF
  go_wp2_with fail
  exact bodyPost_ret (v:=.agg #[.int .i64 x.s0,.int .i64 x.s1,.int .i64 x.s2,.slice a0 x.rs.length c0,.slice a1 x.ss.length c1,.slice a2 x.ws.length c2]) (by simp [results,Tryz.results48,go_sem, *]) rfl HFIN.out
 ·exact fun _ _ _ _ hx=>hx.elim
theorem clone_any (x:SubV) (w:World) (hx:x.At w) (h1:x.rs.length≤16) (h2:x.ss.length≤8) (h3:x.ws.length≤16):Calls Tryz.prog 48 #[.agg #[.int .i64 x.s0,.int .i64 x.s1,.int .i64 x.s2,.slice x.ra x.rs.length x.rc,.slice x.sa x.ss.length x.sc,.slice x.wa x.ws.length x.wc]] w (CloRet x w) :=
 (clone2_any x w hx h1 h2 h3).mono fun e w' ⟨y,h1,h2,h3,h4,_⟩=>⟨y,h1,h2,h3,h4⟩

theorem recInfo:(Tryz.prog.info? 122).map (fun i=>(i.zero,i.size,i.bytes))=some (some (.agg #[.int .i64 0,.int .i64 0,.int .i64 0,.int .i64 0,.slice none 0 0,.slice none 0 0,.slice none 0 0,.bool false]),8,112):=by kernel_rfl
theorem rec_one (r:RecV):∀ u∈r.cells,u.oneCell'=true:=by
 intro u hu
 simp only [RecV.cells,List.mem_cons,List.not_mem_nil,or_false] at hu
 rcases hu with rfl|rfl|rfl|rfl|rfl|rfl|rfl|rfl <;> rfl
theorem rCells_one (rs:List RecV):∀ u∈rCells rs,u.oneCell'=true:=by
 intro u hu
 obtain ⟨r,_,hr⟩:=List.mem_flatMap.1 hu
 exact rec_one r u hr
theorem step_append_run {P:Program} {ops:Array Oper} {o:Oper} {a:Act} {w w':World} {K:Act→World→Prop} {Q:Exit→Act→World→Prop} {E:Prop} {v':Value}
  (hg:o.guard=none) (s x:Operand) (t:TypeId) (hop:o.op=Op.call { callee:=Callee.builtin Builtin.append,args:=#[s,x],argTypes:=#[t,t] }) (vs vx:Value) (hs:a.eval s=vs) (hx:a.eval x=vx)
  (hrun:∀ ty,(Builtin.append_ #[t,t] ty #[vs,vx]).run P w=.ok v' w') (hK:K (a.put o.dst v') w') :
  if Region.wanted o (yielded ops a.tmps)=true then Oper.wp P o a w K Q else E:=by
 have hw:Region.wanted o (yielded ops a.tmps)=true:=by simp [Region.wanted,hg]
 rw [if_pos hw]
 have hrun:=hrun o.type
 unfold Oper.wp
 simp [execOp,hop,resolve,invoke,builtin,hs,hx,hrun,Result.andThen]
 exact hK
set_option maxHeartbeats 4000000 in
set_option maxRecDepth 100000 in
theorem del_any {w:World} {B g n c:Nat} {rs:List RecV} (hn:rs.length=n) (h2:2≤n) (hl:n≤40) (hown:w.ownsRow B 122 8 (.slice (some ⟨g,0,none⟩) n c) n (rCells rs)) :
  Calls Tryz.prog 50 #[.slice (some ⟨g,0,none⟩) n c,.int .i64 0,.int .i64 1] w fun e w'=>e=.returned (.slice (some ⟨g,0,none⟩) (n-1) c)∧w'.ownsRow B 122 8 (.slice (some ⟨g,0,none⟩) (n-1) c) (n-1) (rCells (rs.drop 1))∧w.grownBy w' (some g):=by
 obtain ⟨i0,hi0,hz0,hzs,hzb⟩:=info_parts recInfo
 obtain ⟨g',cap',cur,h1,hBg,hg,hnc,hcm,hcs,htake⟩:=hown.2.resolve_left (by rintro ⟨h,_⟩;cases h)
 obtain ⟨rfl,rfl⟩:g=g'∧c=cap':=by cases h1;exact ⟨rfl,rfl⟩
 have hgl:=(Array.getElem?_eq_some_iff.1 hg).1
 have hlen:(rCells rs).length=n * 8:=by rw [rCells_len,hn]
 have hd1:rCells (rs.drop 1)=(rCells rs).drop 8:=by have:=flat_drop cells8 rs 1;simpa [rCells] using this.symm
 have hdl:((rCells rs).drop 8).length=(n-1) * 8:=by rw [List.length_drop,hlen];omega
 obtain ⟨q,rfl⟩:∃ q,n=q+1:=⟨n-1,by omega⟩
 simp only [Nat.add_sub_cancel] at *
 have hr:=fun ty=>run_append_room (P:=Tryz.prog) w.drew 109 ty 122 i0 Tryz.underlying109 hi0 g 0 c cur hg ⟨g,8,none⟩ q (c-1) ((rCells rs).drop 8) (by rw [hdl,hzs])
  (fun j u hj=>by
   rw [List.getElem?_drop] at hj
   have:=hown.cells (g:=g) rfl (8+j) u hj
   rw [K.addr0] at this
   rw [Addr.add_lit];exact this) (fun u hu=>rCells_one rs u (List.mem_of_mem_drop hu)) (by omega) (by rw [hdl,hcs];omega)
 simp only [Nat.zero_mul,Nat.zero_add,List.take_zero,List.nil_append] at hr
 obtain ⟨R1,hR1⟩:∃ R:Array Value,R=((rCells rs).drop 8++cur.toList.drop ((rCells rs).drop 8).length).toArray:=⟨_,rfl⟩
 rw [←hR1] at hr
 have hz1:R1.size=c * 8:=by rw [hR1];simp only [List.size_toArray,List.length_append,List.length_drop,Array.length_toList,hcs,hdl,hlen];omega
 have hg1:=setRow_heap w.drew g cur R1 _ _ hg
 have hclr:=fun ty=>run_clear_row (P:=Tryz.prog) (w.drew.setRow g R1) 109 122 (.agg #[.int .i64 0,.int .i64 0,.int .i64 0,.int .i64 0,.slice none 0 0,.slice none 0 0,.slice none 0 0,.bool false]) 8 Tryz.underlying109 Tryz.zeroValue122 rfl (by intro u hu;simp [Value.cells] at hu;rcases hu with rfl|rfl|rfl <;> rfl) g (q * 8) 1 (c-q) R1 _ hg1 (by omega) (by rw [hz1];omega) ty
 obtain ⟨R2,hR2⟩:∃ R:Array Value,R=(R1.toList.take (q * 8)++(Builtin.zeroCells (Value.agg #[.int .i64 0,.int .i64 0,.int .i64 0,.int .i64 0,.slice none 0 0,.slice none 0 0,.slice none 0 0,.bool false]).cells 1).toList++R1.toList.drop (q * 8+1 * 8)).toArray:=⟨_,rfl⟩
 rw [←hR2] at hclr
 have fin:((w.drew.setRow g R1).setRow g R2).ownsRow B 122 8 (.slice (some ⟨g,0,none⟩) q c) q (rCells (rs.drop 1))∧w.grownBy ((w.drew.setRow g R1).setRow g R2) (some g):=by
  have hzl:(Builtin.zeroCells (Value.agg #[.int .i64 0,.int .i64 0,.int .i64 0,.int .i64 0,.slice none 0 0,.slice none 0 0,.slice none 0 0,.bool false]).cells 1).toList.length=8:=by rw [Array.length_toList,size_zeroCells];rfl
  refine ⟨⟨by rw [hd1,hdl],.inr ⟨g,c,R2,rfl,hBg,setRow_heap _ g R1 _ _ _ hg1,by omega,hcm,?_,?_⟩⟩,(show w.grownBy (w.drew.setRow g R1) (some g) from ⟨rfl,rfl,rfl,(grownBy_setRow w.drew g R1).size,fun k hk hn=>(grownBy_setRow w.drew g R1).block k hk hn⟩).trans (grownBy_setRow _ g R2)⟩
  ·rw [hR2];simp only [List.size_toArray,List.length_append,List.length_take,List.length_drop,hzl,Array.length_toList,hz1];omega
  ·rw [hR2]
   simp only [List.append_assoc]
   have hl2:(R1.toList.take (q * 8)).length=q * 8:=by rw [List.length_take,Array.length_toList,hz1];omega
   rw [List.take_append_of_le_length (by omega),List.take_take,Nat.min_self,hR1,hd1]
   simp only
   rw [←hdl,List.take_left]
 have hfin:=hid fin
 have hC:=hid hclr;have hR:=hid hr
 have hc1:¬c=1:=by omega
 have h1q:(1:Int)≤(q:Int)+1:=by omega
 have hqc:(q:Int)≤(c:Int):=by omega
 clear fin hr hclr hg hg1 hR1 hR2 hz1 hcs htake hown h1 hd1 hdl hlen hz0 hzs hzb hi0 hn
 go_enter Tryz.func50,Tryz.ntmps50
 go_upto_region 5 with fail
 go_region_law (refine step_append_run rfl (.tmp 22) (.tmp 25) 109 rfl (.slice (some ⟨g,0,none⟩) 0 c) (.slice (some ⟨g,8,none⟩) q (c-1)) (by simp [Act.eval,Act.put]) (by simp [Act.eval,Act.put]) hR.out ?_)
 all_goals
  have hclr:=hC.out
  have hci:¬(c=q):=by omega
  have hq1:(q:Int)≤(q:Int)+1:=by omega
  have hq2:q≤q+1:=by omega
  simp [Act.put]
  go_wp2_with fail
  go_ret
  exact ⟨rfl,hfin.out⟩

section
variable {B T : Nat} {c : CL} {ow : Nat → Nat} {w w1 : World}
theorem CAt.give6 (h:CAt B T c ow w) (hb:Below w.heap.size w w1):CAt B T c (give ow w w1 6) w1∧Fr ow (give ow w w1 6) w w1:=by
 have hk:∀ S:Nat→Prop,Keeps w w1 S:=fun S k hk _=>hb.block k hk
 have st:∀ j,∀ k,k<w.heap.size→ow k=j→give ow w w1 6 k=j:=fun j k hk e=>(give_old hk).trans e
 have hT:=h.lt
 have hr:=h.row.lt
 exact ⟨⟨(hb.block T hT.2).trans h.box,(give_old hT.2).trans h.hT,row_kept h.row fun g e=>hb.block g (hr g e).2,fun g e=>⟨(give_old (hr g e).2).trans (h.hrow g e).1,(h.hrow g e).2⟩,h.k1.kept (st 2) (hk _),h.k2.kept (st 3) (hk _),h.k3.kept (st 4) (hk _),h.k4.kept (st 5) (hk _),fun r hr=>(h.subs r hr).kept (st 6) (hk _),fun k hk'=>by
  have hs:=hb.size
  by_cases h1:k<w.heap.size
  ·rw [give_old h1] at hk'
   have:=h.low k hk';omega
  ·by_cases h2:k<w1.heap.size
   ·omega
   ·exfalso;apply hk';unfold give;rw [if_neg h1,if_neg h2],h.cnt,h.nums,h.kp,h.chk⟩,⟨hb.os,hb.tape,hb.output,hb.size,fun k hk _=>hb.block k hk,fun k hk=>give_old hk⟩⟩
theorem CAt.inc (h:CAt B T c ow w) (h1:c.count+1≤1099511627776):CAt B T { c with count:=c.count+1 } ow (w.setCell ⟨T,2,none⟩ (.int .i64 (c.count+1)))∧Fr ow ow w (w.setCell ⟨T,2,none⟩ (.int .i64 (c.count+1))):=by
 obtain ⟨q,g⟩:=K.set1 (i:=2) h.box (.int .i64 (c.count+1))
 have kp:∀ j:Nat,j≠1→Keeps w (w.setCell ⟨T,2,none⟩ (.int .i64 (c.count+1))) (fun k=>ow k=j):=fun j hj k hk' e=>g.block k hk' fun e'=>hj (by have:=Option.some.inj e';rw [←e,this];exact h.hT)
 have id:∀ S:Nat→Prop,∀ k,k<w.heap.size→S k→S k:=fun S k _ h=>h
 have h0:=h.cnt
 exact ⟨⟨q,h.hT,row_kept h.row fun k e=>g.block k (h.row.lt k e).2 fun e'=>(h.hrow k e).2 (Option.some.inj e'),h.hrow,h.k1.kept (id _) (kp 2 (by decide)),h.k2.kept (id _) (kp 3 (by decide)),h.k3.kept (id _) (kp 4 (by decide)),h.k4.kept (id _) (kp 5 (by decide)),fun r hr=>(h.subs r hr).kept (id _) (kp 6 (by decide)),fun k hk=>⟨(h.low k hk).1,Nat.lt_of_lt_of_le (h.low k hk).2 g.size⟩,⟨h0.1,by simp only;omega,h1⟩,fun r hr=>⟨(h.nums r hr).1,by have:=(h.nums r hr).2;simp only;omega⟩,h.kp,h.chk⟩,
  ⟨g.os,g.tape,g.output,g.size,fun k hk h0=>g.block k hk fun e=>(by have:=Option.some.inj e;rw [this,h.hT] at h0;cases h0),fun _ _=>rfl⟩⟩
theorem CAt.reslice (h:CAt B T c ow w) (ht:Turn ow 1 w w1) (hT1:w1.heap[T]? = w.heap[T]?) {a':Option Addr} {cap':Nat} {rs':List RecV} (hown:w1.ownsRow B 122 8 (.slice a' rs'.length cap') rs'.length (rCells rs'))
  (hin:∀ g,(Value.slice a' rs'.length cap').ownBlock=some g→give ow w w1 1 g=1∧g≠T) (hsubs:∀ r∈rs',SubL (fun k=>ow k=6) r.s w) (hn:∀ r∈rs',0<r.num∧r.num≤c.count) (hkp:(rs'.length:Int)≤c.keep+1) (hc:∀ r∈rs',r.s.rs.length≤16∧r.s.ss.length≤8∧r.s.ws.length≤16) :
  CAt B T { c with recs:=rs',ra:=a',rc:=cap' } (give ow w w1 1) (w1.setCell ⟨T,4,none⟩ (.slice a' rs'.length cap'))∧Fr ow (give ow w w1 1) w (w1.setCell ⟨T,4,none⟩ (.slice a' rs'.length cap')):=by
 obtain ⟨q,g⟩:=K.set1 (i:=4) (hT1.trans h.box) (.slice a' rs'.length cap')
 have hs:=ht.size
 have hT:=h.lt
 have blk:∀ k,k<w.heap.size→ow k≠1→(w1.setCell ⟨T,4,none⟩ (.slice a' rs'.length cap')).heap[k]? = w.heap[k]?:=fun k hk h1=>(g.block k (by omega) fun e=>h1 (by have:=Option.some.inj e;rw [this];exact h.hT)).trans (ht.block k hk h1)
 have kp:∀ j:Nat,j≠1→Keeps w (w1.setCell ⟨T,4,none⟩ (.slice a' rs'.length cap')) (fun k=>ow k=j):=fun j hj k hk' e=>blk k hk' (by rw [e];exact hj)
 have st:∀ j,∀ k,k<w.heap.size→ow k=j→give ow w w1 1 k=j:=fun j k hk e=>(give_old hk).trans e
 have hgs:=g.size
 exact ⟨⟨q,(give_old hT.2).trans h.hT,row_kept hown fun k e=>g.block k (hown.lt k e).2 fun e'=>(hin k e).2 (Option.some.inj e'),hin,h.k1.kept (st 2) (kp 2 (by decide)),h.k2.kept (st 3) (kp 3 (by decide)),h.k3.kept (st 4) (kp 4 (by decide)),h.k4.kept (st 5) (kp 5 (by decide)),fun r hr=>(hsubs r hr).kept (st 6) (kp 6 (by decide)),fun k hk=>by
   have:=ht.low h.hB h.low k hk
   omega,h.cnt,hn,⟨h.kp.1,h.kp.2.1,hkp⟩,hc⟩,
  ⟨g.os.trans ht.os,g.tape.trans ht.tape,g.output.trans ht.output,Nat.le_trans hs hgs,fun k hk h0=>blk k hk (by rw [h0];decide),fun k hk=>give_old hk⟩⟩
theorem CAt.pop (h:CAt B T c ow w) {g:Nat} (hra:c.ra=some ⟨g,0,none⟩) {n:Nat} (hn:c.recs.length=n+1) (hg:w.grownBy w1 (some g)) (hown:w1.ownsRow B 122 8 (.slice (some ⟨g,0,none⟩) n c.rc) n (rCells (c.recs.drop 1))) :
  ∃ ow',CAt B T { c with recs:=c.recs.drop 1 } ow' (w1.setCell ⟨T,4,none⟩ (.slice (some ⟨g,0,none⟩) n c.rc))∧Fr ow ow' w (w1.setCell ⟨T,4,none⟩ (.slice (some ⟨g,0,none⟩) n c.rc)):=by
 have hr:=h.hrow g (by rw [hra];rfl)
 have hl:(c.recs.drop 1).length=n:=by rw [List.length_drop];omega
 have hgl:=(h.row.lt g (by rw [hra];rfl)).2
 have ht:Turn ow 1 w w1:=⟨hg.os,hg.tape,hg.output,hg.size,fun k hk h1=>hg.block k hk fun e=>h1 (by have:=Option.some.inj e;rw [this];exact hr.1)⟩
 have hd:∀ r∈c.recs.drop 1,r∈c.recs:=fun r hr=>List.mem_of_mem_drop hr
 have hown':w1.ownsRow B 122 8 (.slice (some ⟨g,0,none⟩) (c.recs.drop 1).length c.rc) (c.recs.drop 1).length (rCells (c.recs.drop 1)):=by rw [hl];exact hown
 have:=h.reslice ht (hg.block T h.lt.2 fun e=>hr.2 (Option.some.inj e).symm) hown' (fun g' e=>by
  cases e
  exact ⟨(give_old hgl).trans hr.1,hr.2⟩) (fun r hr=>h.subs r (hd r hr)) (fun r hr=>h.nums r (hd r hr)) (by rw [hl];have:=h.kp.2.2;omega) fun r hr=>h.chk r (hd r hr)
 rw [hl] at this
 refine ⟨_,?_,this.2⟩
 have e:({ c with recs:=c.recs.drop 1 }:CL) = { c with recs:=c.recs.drop 1,ra:=some ⟨g,0,none⟩,rc:=c.rc }:=by rw [←hra]
 rw [e]
 exact this.1
end

def CL.commit (c:CL) (y:SubV) (out:Bool):CL :=
 let c2:CL:={ c with count:=c.count+1,recs:=c.recs++[⟨c.count+1,y,out⟩] }
 if c.keep<(c2.recs.length:Int) then { (c2.sum (c2.recs.headD ⟨0,y,out⟩)) with recs:=c2.recs.drop 1 } else c2
theorem app_rec {w:World} {B n:Nat} {a:Option Addr} {cap:Nat} {rs:List RecV} (r:RecV) (hn:rs.length=n) (hown:w.ownsRow B 122 8 (.slice a n cap) n (rCells rs)) (hB:B≤w.heap.size) (hl:n≤40) (G:Nat) (hG:∀ j u,r.cells[j]? = some u→w.cell? ⟨G,j,none⟩=some u) :
  ∃ a' c' w',(∀ ty,(Builtin.append_ #[109,109] ty #[.slice a n cap,.slice (some ⟨G,0,none⟩) 1 1]).run Tryz.prog w=.ok (.slice a' (n+1) c') w')∧w'.ownsRow B 122 8 (.slice a' (n+1) c') (n+1) (rCells (rs++[r]))∧Grew w w' (.slice a n cap) (.slice a' (n+1) c'):=by
 obtain ⟨i0,hi0,hz0,hzs,hzb⟩:=info_parts recInfo
 obtain ⟨v',w',hr,h2,h3⟩:=run_append_own2 (P:=Tryz.prog) w B 109 122 i0 _ 8 112 Tryz.underlying109 hi0 hz0 hzs hzb rfl (by omega) _ _ _ hown ⟨G,0,none⟩ 1 1 r.cells (by rw [cells8])
  (fun j u hj=>by rw [K.addr0];exact hG j u hj) (rec_one r) (by omega) (by unfold maxLen;omega) (by omega) hB
 have hc:rCells rs++r.cells=rCells (rs++[r]):=by simp [rCells]
 rw [hc] at h2
 have hv:∃ va vc,v'=.slice va (n+1) vc:=by
  rcases h2.2 with ⟨rfl,h4⟩|⟨g,cap,cur,rfl,_⟩
  ·omega
  ·exact ⟨_,_,rfl⟩
 obtain ⟨a',c',rfl⟩:=hv
 exact ⟨a',c',w',hr,h2,h3⟩
def PushedN (w0:World) (B T:Nat) (c:CL) (ow:Nat→Nat) (num:Int) (y:SubV) (out:Bool) (a':Option Addr) (c':Nat) (W:World):Prop :=
 ∃ ow',CAt B T { c with recs:=c.recs++[⟨num,y,out⟩],ra:=a',rc:=c' } ow' W∧Fr ow ow' w0 W
theorem push_runN {Y0 X1:World} {B T:Nat} {c:CL} {ow:Nat→Nat} {x y:SubV} {num:Int} (h:CAt B T c ow Y0∧(0<num∧num≤c.count)∧(c.recs.length:Int)≤c.keep) (hb:Below Y0.heap.size Y0 X1) (hy:SubL (fun k=>Y0.heap.size≤k) y X1) (hs:SameS y x) (hl:x.rs.length≤16∧x.ss.length≤8∧x.ws.length≤16) (out:Bool) :
  ∃ a' c' X3,(∀ ty,(Builtin.append_ #[109,109] ty #[.slice c.ra c.recs.length c.rc,.slice (some ⟨X1.heap.size,0,none⟩) 1 1]).run Tryz.prog (X1.alloc (.cells #[.int .i64 num,.int .i64 y.s0,.int .i64 y.s1,.int .i64 y.s2,.slice y.ra y.rs.length y.rc,.slice y.sa y.ss.length y.sc,.slice y.wa y.ws.length y.wc,.bool out] 122))=.ok (.slice a' (c.recs.length+1) c') X3) ∧
   X3.heap[T]? = some (.cells c.box 111 (0,0))∧PushedN Y0 B T c ow num y out a' c' (X3.setCell ⟨T,4,none⟩ (.slice a' (c.recs.length+1) c')):=by
 obtain ⟨h,hc0,hkl⟩:=h
 obtain ⟨h1,f1⟩:=h.give6 hb
 have hb2:Below X1.heap.size X1 (X1.alloc (.cells #[.int .i64 num,.int .i64 y.s0,.int .i64 y.s1,.int .i64 y.s2,.slice y.ra y.rs.length y.rc,.slice y.sa y.ss.length y.sc,.slice y.wa y.ws.length y.wc,.bool out] 122)):=by exact below_auto
 have hq:(X1.alloc (.cells #[.int .i64 num,.int .i64 y.s0,.int .i64 y.s1,.int .i64 y.s2,.slice y.ra y.rs.length y.rc,.slice y.sa y.ss.length y.sc,.slice y.wa y.ws.length y.wc,.bool out] 122)).heap[X1.heap.size]? = some (.cells #[.int .i64 num,.int .i64 y.s0,.int .i64 y.s1,.int .i64 y.s2,.slice y.ra y.rs.length y.rc,.slice y.sa y.ss.length y.sc,.slice y.wa y.ws.length y.wc,.bool out] 122 (0,0)):=heap_alloc_new X1 _
 have hl0:∀ b,(∃ o,(y.rs≠[]∧y.ra=some ⟨b,o,none⟩)∨(y.ss≠[]∧y.sa=some ⟨b,o,none⟩)∨(y.ws≠[]∧y.wa=some ⟨b,o,none⟩))→b<X1.heap.size:=by
  rintro b ⟨o,⟨h0,e⟩|⟨h0,e⟩|⟨h0,e⟩⟩
  ·rcases hy.at_.r.row with h4|⟨b',o',h5,h6,_⟩
   ·exact absurd h4 h0
   ·rw [e] at h5;cases h5;exact h6
  ·rcases hy.at_.s.row with h4|⟨b',o',h5,h6,_⟩
   ·exact absurd h4 h0
   ·rw [e] at h5;cases h5;exact h6
  ·rcases hy.at_.w.row with h4|⟨b',o',h5,h6,_⟩
   ·exact absurd h4 h0
   ·rw [e] at h5;cases h5;exact h6
 have hy6:SubL (fun k=>give ow Y0 X1 6 k=6) y X1:=⟨hy.at_,fun h0 b o e=>give_new (hy.r h0 b o e) (hl0 b ⟨o,.inl ⟨h0,e⟩⟩),fun h0 b o e=>give_new (hy.s h0 b o e) (hl0 b ⟨o,.inr (.inl ⟨h0,e⟩)⟩),fun h0 b o e=>give_new (hy.w h0 b o e) (hl0 b ⟨o,.inr (.inr ⟨h0,e⟩)⟩)⟩
 generalize X1.alloc (.cells #[.int .i64 num,.int .i64 y.s0,.int .i64 y.s1,.int .i64 y.s2,.slice y.ra y.rs.length y.rc,.slice y.sa y.ss.length y.sc,.slice y.wa y.ws.length y.wc,.bool out] 122)=X2 at *
 have h2:=h1.below hb2
 have hy2:=hy6.kept (fun _ _ h=>h) (fun k hk _=>hb2.block k hk)
 have hT:=h2.lt
 obtain ⟨a',c',X3,hr,ho,g,hnew⟩:=app_rec ⟨num,y,out⟩ rfl h2.row h2.hB (by have:=h.kp;omega) X1.heap.size (fun j u hj=>by rw [cell_row hq];rw [←hj];simp [RecV.cells])
 have hrow:=h2.hrow
 have hrl:=h2.row.lt
 have ht:Turn (give ow Y0 X1 6) 1 X2 X3:=⟨g.os,g.tape,g.output,g.size,fun k hk h1'=>g.block k hk fun e=>h1' (hrow k e.symm).1⟩
 have hT3:X3.heap[T]? = X2.heap[T]?:=g.block T hT.2 fun e=>(hrow T e.symm).2 rfl
 refine ⟨a',c',X3,hr,hT3.trans h2.box,?_⟩
 have hlen:(c.recs++[(⟨num,y,out⟩:RecV)]).length=c.recs.length+1:=by simp
 have hsl:=h2.reslice ht hT3 (a':=a') (cap':=c') (rs':=c.recs++[⟨num,y,out⟩]) (by rw [hlen];exact ho) (fun k e=>by
   rw [hlen] at e
   rcases hnew with h5|h5|⟨k',h5,h6⟩
   ·rw [h5] at e
    exact ⟨(give_old (hrl k e).2).trans (hrow k e).1,(hrow k e).2⟩
   ·rw [h5] at e;cases e
   ·rw [h5] at e;cases e
    exact ⟨give_new h6 (ho.lt k h5).2,by omega⟩) (fun r hr=>by
   rcases List.mem_append.1 hr with h5|h5
   ·exact h2.subs r h5
   ·rw [List.mem_singleton.1 h5];exact hy2) (fun r hr=>by
   rcases List.mem_append.1 hr with h5|h5
   ·exact h2.nums r h5
   ·rw [List.mem_singleton.1 h5];exact hc0) (by rw [hlen];omega) (fun r hr=>by
   rcases List.mem_append.1 hr with h5|h5
   ·exact h2.chk r h5
   ·rw [List.mem_singleton.1 h5];simp only;rw [hs.rs,hs.ss,hs.ws];exact hl)
 rw [hlen] at hsl
 exact ⟨_,hsl.1,(f1.trans (Fr.of_below _ hb2)).trans hsl.2⟩
def Pushed (w0:World) (B T:Nat) (c:CL) (ow:Nat→Nat) (y:SubV) (out:Bool) (a':Option Addr) (c':Nat) (W:World):Prop:=PushedN w0 B T c ow c.count y out a' c' W
theorem push_run {Y0 X1:World} {B T:Nat} {c:CL} {ow:Nat→Nat} {x y:SubV} (h:CAt B T c ow Y0∧0<c.count∧(c.recs.length:Int)≤c.keep) (hb:Below Y0.heap.size Y0 X1) (hy:SubL (fun k=>Y0.heap.size≤k) y X1) (hs:SameS y x) (hl:x.rs.length≤16∧x.ss.length≤8∧x.ws.length≤16) (out:Bool) :
  ∃ a' c' X3,(∀ ty,(Builtin.append_ #[109,109] ty #[.slice c.ra c.recs.length c.rc,.slice (some ⟨X1.heap.size,0,none⟩) 1 1]).run Tryz.prog (X1.alloc (.cells #[.int .i64 c.count,.int .i64 y.s0,.int .i64 y.s1,.int .i64 y.s2,.slice y.ra y.rs.length y.rc,.slice y.sa y.ss.length y.sc,.slice y.wa y.ws.length y.wc,.bool out] 122))=.ok (.slice a' (c.recs.length+1) c') X3) ∧
   X3.heap[T]? = some (.cells c.box 111 (0,0))∧Pushed Y0 B T c ow y out a' c' (X3.setCell ⟨T,4,none⟩ (.slice a' (c.recs.length+1) c')):=push_runN ⟨h.1,⟨h.2.1,Int.le_refl _⟩,h.2.2⟩ hb hy hs hl out
def PushR (w0 Y0:World) (B T:Nat) (c:CL) (ow:Nat→Nat) (x:SubV) (out:Bool):List Value→World→Prop
 | [],X=>X=Y0∧(CAt B T c ow Y0∧0<c.count∧(c.recs.length:Int)≤c.keep)
 | [v],X=>∃ y:SubV,v=.agg #[.int .i64 y.s0,.int .i64 y.s1,.int .i64 y.s2,.slice y.ra y.rs.length y.rc,.slice y.sa y.ss.length y.sc,.slice y.wa y.ws.length y.wc]∧SubL (fun k=>Y0.heap.size≤k) y X∧SameS y x∧Below Y0.heap.size Y0 X∧(CAt B T c ow Y0∧0<c.count∧(c.recs.length:Int)≤c.keep)
 | [v,u],X=>∃ (y:SubV) (G:Nat),v=.agg #[.int .i64 y.s0,.int .i64 y.s1,.int .i64 y.s2,.slice y.ra y.rs.length y.rc,.slice y.sa y.ss.length y.sc,.slice y.wa y.ws.length y.wc]∧u=.slice (some ⟨G,0,none⟩) 1 1∧∃ X1:World,G=X1.heap.size∧X=X1.alloc (.cells #[.int .i64 c.count,.int .i64 y.s0,.int .i64 y.s1,.int .i64 y.s2,.slice y.ra y.rs.length y.rc,.slice y.sa y.ss.length y.sc,.slice y.wa y.ws.length y.wc,.bool out] 122)∧SubL (fun k=>Y0.heap.size≤k) y X1∧SameS y x∧Below Y0.heap.size Y0 X1∧(CAt B T c ow Y0∧0<c.count∧(c.recs.length:Int)≤c.keep)
 | [_,_,u],X=>∃ (y:SubV) (a':Option Addr) (c':Nat),u=.slice a' (c.recs.length+1) c'∧SameS y x∧X.heap[T]? = some (.cells c.box 111 (0,0))∧Pushed Y0 B T c ow y out a' c' (X.setCell ⟨T,4,none⟩ (.slice a' (c.recs.length+1) c'))
 | _ :: _ :: _ :: _ :: _,X=>∃ (y:SubV) (a':Option Addr) (c':Nat),SameS y x∧Pushed Y0 B T c ow y out a' c' X
theorem PushR.early {w0 Y0:World} {B T:Nat} {c:CL} {ow:Nat→Nat} {x:SubV} {out:Bool}:∀ {ms:List Value} {X:World},ms.length≤2→PushR w0 Y0 B T c ow x out ms X→Below Y0.heap.size Y0 X
 | [],X,_,h=>by rw [h.1];exact Below.refl _ _
 | [_],_,_,h=>by
  obtain ⟨y,_,_,_,hb,_⟩:=h
  exact hb
 | [_,_],_,_,h=>by
  obtain ⟨y,G,_,_,X1,_,rfl,_,_,hb,_⟩:=h
  exact hb.alloc hb.size _
 | _ :: _ :: _ :: _,_,hl,_=>by simp at hl

end Go.Proofs.YtdeeoddacnealaaGreat.C