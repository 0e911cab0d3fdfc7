/- Several texts as one: BYP BYA BYB. -/
import Derived.Test.YtdeeoddacnealaaGreatMCR
import Derived.Test.YtdeeoddacnealaaGreatMPE
import Derived.Test.YtdeeoddacnealaaGreatMCE
import Derived.Test.YtdeeoddacnealaaGreatCO
set_option linter.unusedVariables false
set_option linter.unusedSimpArgs false
namespace Go.Proofs.YtdeeoddacnealaaGreat.C
open Go.RowKit Fl
open Go.Proofs.YtdeeoddacnealaaGreat.P (numB keyB codeN encO NumD)

def itB (x:ItV):List Nat:=keyB (codeN x.k.bits)++numB x.n
def itsB (its:List ItV):List Nat:=numB its.length++its.flatMap itB
def itqB (x:Q.ItV):List Nat:=keyB (codeN x.k.lo.bits)++keyB (codeN x.k.hi.bits)++numB x.n
def itqsB (its:List Q.ItV):List Nat:=numB its.length++its.flatMap itqB
def recB (r:RecV):List Nat:=(if r.out=true then 1 else 0) :: (numB (encO r.s).length++encO r.s)
def headB (c:CL):List Nat:=numB c.count++numB c.horizon++numB c.recs.length
def bytesC (c:CL):List Nat:=headB c++c.recs.flatMap recB++itsB c.i1++itsB c.i2++itsB c.i3++itqsB c.i4
theorem bytesC_n (c:CL):bytesC (CL.n c)=bytesC c:=by
 unfold bytesC CL.n headB
 simp only [List.flatMap_map,List.length_map]
 rfl
theorem flat_snoc {α β:Type} {f:α→List β} {l:List α} {i:Nat} {y:α} (h:l[i]? = some y):(l.take (i+1)).flatMap f=(l.take i).flatMap f++f y:=by
 rw [List.take_add_one,h,List.flatMap_append];simp
theorem encO_len2 {x:SubV} {w:World} (hx:x.At w) (h:K.SubV.check x=0):0<(encO x).length∧(encO x).length≤4096:=by
 obtain ⟨hnb,hmb,_⟩:=P.check0 h
 obtain ⟨l1,l2,l3⟩:=K.mb_false hmb
 have ok:=P.vals_ok x w hx hnb hmb
 unfold encO
 rw [if_pos h]
 have h1:=P.packB_plain ok (P.vals_plain x)
 have h2:(P.valsOf x).length=6+x.rs.length+2 * x.ss.length+x.ws.length:=by
  unfold P.valsOf
  simp [P.encNums,P.encS_len];omega
 refine ⟨?_,by omega⟩
 have h3:P.packB (P.valsOf x)=numB x.s0++P.packB ((P.valsOf x).tail):=rfl
 rw [h3,List.length_append]
 have:0<(numB x.s0).length:=by unfold numB;by_cases h:P.zig x.s0<128;rw [P.vlq_lt h];simp;rw [P.vlq_ge h];simp
 omega
open Go.Proofs.YtdeeoddacnealaaGreat.P (PV VBox appV BoxRet numB keyB codeN encO NumD packB pvCells own_notbox bCells)

set_option maxRecDepth 100000 in
theorem byNum_any (p:Nat) (vs:List PV) (k:Int) (w:World) (h:VBox p vs w) (hl:vs.length≤1000) :
  Calls Tryz.prog 57 #[.int .i64 k,.pointer (some ⟨p,0,none⟩)] w (BoxRet p (vs++[.num k]) w):=by
 obtain ⟨a,c,h1,h2⟩:=h
 have hlt:p<w.heap.size:=(Array.getElem?_eq_some_iff.1 h1).1
 have c0:w.cell? ⟨p,0,none⟩=some (.slice a vs.length c):=by rw [cell_of_row w p 0 _ _ (0,0) h1];rfl
 obtain ⟨a',c',w1,hr,hown,hg⟩:=appV (.num k) rfl h2 (by omega) (by omega)
 have F1:=P.Fr.of_grown h2 hg
 have h1':w1.heap[p]? = some (.cells #[.slice a vs.length c] 134 (0,0)):=(hg.block p hlt (fun e=>by have:=(h2.lt p e.symm).1;omega)).trans h1
 have c1:w1.cell? ⟨p,0,none⟩=some (.slice a vs.length c):=by rw [cell_of_row w1 p 0 _ _ (0,0) h1'];rfl
 have f1:w1.frozen? ⟨p,0,none⟩=false:=by simp [World.frozen?,h1']
 obtain ⟨h5,h6⟩:=K.set1 (i:=0) h1' (.slice a' (vs.length+1) c')
 have hl2:(vs++[PV.num k]).length=vs.length+1:=by simp
 have HB:Hid (VBox p (vs++[.num k]) (w1.setCell ⟨p,0,none⟩ (.slice a' (vs.length+1) c'))):=hid ⟨a',c',by rw [hl2];exact h5,by rw [hl2];exact hown.kept h6 (.inr fun e=>own_notbox hown e h1' rfl)⟩
 have HF:Hid (P.Fr p w (w1.setCell ⟨p,0,none⟩ (.slice a' (vs.length+1) c'))):=hid (F1.trans (P.Fr.of_set h6))
 unfold PV.enc at hr
 clear h1 h2 hown hg F1 h1' h5 h6 hl2
 go_enter Tryz.func57,Tryz.ntmps57
 go_wp2_with (at_builtin;refine Lib.wpList_append_run _ rfl _ _ _ _ rfl _ _ rfl rfl _ _ (hr _) ?_)
 go_end0
 exact ⟨rfl,HB.out,HF.out⟩
set_option maxRecDepth 100000 in
theorem byKey_any (p:Nat) (vs:List PV) (k:Nat) (w:World) (h:VBox p vs w) (hl:vs.length≤1000) :
  Calls Tryz.prog 58 #[.float .f64 k,.pointer (some ⟨p,0,none⟩)] w (BoxRet p (vs++[.key k]) w):=by
 obtain ⟨a,c,h1,h2⟩:=h
 have hlt:p<w.heap.size:=(Array.getElem?_eq_some_iff.1 h1).1
 have c0:w.cell? ⟨p,0,none⟩=some (.slice a vs.length c):=by rw [cell_of_row w p 0 _ _ (0,0) h1];rfl
 obtain ⟨a',c',w1,hr,hown,hg⟩:=appV (.key k) rfl h2 (by omega) (by omega)
 have F1:=P.Fr.of_grown h2 hg
 have h1':w1.heap[p]? = some (.cells #[.slice a vs.length c] 134 (0,0)):=(hg.block p hlt (fun e=>by have:=(h2.lt p e.symm).1;omega)).trans h1
 have c1:w1.cell? ⟨p,0,none⟩=some (.slice a vs.length c):=by rw [cell_of_row w1 p 0 _ _ (0,0) h1'];rfl
 have f1:w1.frozen? ⟨p,0,none⟩=false:=by simp [World.frozen?,h1']
 obtain ⟨h5,h6⟩:=K.set1 (i:=0) h1' (.slice a' (vs.length+1) c')
 have hl2:(vs++[PV.key k]).length=vs.length+1:=by simp
 have HB:Hid (VBox p (vs++[.key k]) (w1.setCell ⟨p,0,none⟩ (.slice a' (vs.length+1) c'))):=hid ⟨a',c',by rw [hl2];exact h5,by rw [hl2];exact hown.kept h6 (.inr fun e=>own_notbox hown e h1' rfl)⟩
 have HF:Hid (P.Fr p w (w1.setCell ⟨p,0,none⟩ (.slice a' (vs.length+1) c'))):=hid (F1.trans (P.Fr.of_set h6))
 unfold PV.enc at hr
 clear h1 h2 hown hg F1 h1' h5 h6 hl2
 go_enter Tryz.func58,Tryz.ntmps58
 go_wp2_with (at_builtin;refine Lib.wpList_append_run _ rfl _ _ _ _ rfl _ _ rfl rfl _ _ (hr _) ?_)
 go_end0
 exact ⟨rfl,HB.out,HF.out⟩

def VS (p:Nat) (L:List Nat) (n:Nat) (w:World):Prop:=∃ vs:List PV,VBox p vs w∧packB vs=L∧vs.length=n∧(∀ v∈vs,v.ok)∧∀ v∈vs,v.lies w
theorem lies_fr {p:Nat} {v:PV} {w w':World} {cur:Array Value} {fr:Nat×Nat} (h:v.lies w) (f:P.Fr p w w') (hp:w.heap[p]? = some (.cells cur 134 fr)):v.lies w':=by
 cases v with
 | raw a c l =>
  obtain ⟨g,o,cr,fr',h1,h2,h3⟩:=h
  exact ⟨g,o,cr,fr',h1,f.tag h2 (fun e'=>by subst e';rw [h2] at hp;simp at hp) (by decide),h3⟩
 | _=>trivial
theorem VS.box {p n:Nat} {L:List Nat} {w:World} (h:VS p L n w):∃ cur:Array Value,w.heap[p]? = some (.cells cur 134 (0,0)):=by
 obtain ⟨vs,⟨a,c,h1,_⟩,_⟩:=h
 exact ⟨_,h1⟩
theorem VS.below {p n:Nat} {L:List Nat} {w w':World} (h:VS p L n w) (hb:Below w.heap.size w w'):VS p L n w':=by
 obtain ⟨vs,h1,h2,h3,h4,h5⟩:=h
 exact ⟨vs,h1.below hb,h2,h3,h4,fun v hv=>PV.lies_below (h5 v hv) hb⟩
theorem packB_snoc (vs:List PV) (v:PV):packB (vs++[v])=packB vs++v.bytes:=by simp [packB]
theorem VS.num {p n:Nat} {L:List Nat} {w:World} (h:VS p L n w) (k:Int) (hk:NumD k) (hn:n≤900) :
  Calls Tryz.prog 57 #[.int .i64 k,.pointer (some ⟨p,0,none⟩)] w fun e w'=>e=.returned (.tuple #[])∧VS p (L++numB k) (n+1) w'∧P.Fr p w w':=by
 obtain ⟨cur,hp⟩:=h.box
 obtain ⟨vs,h1,h2,h3,h4,h5⟩:=h
 refine (byNum_any p vs k w h1 (by omega)).mono ?_
 rintro e w' ⟨rfl,k1,k2⟩
 refine ⟨rfl,⟨_,k1,by rw [packB_snoc,h2];rfl,by rw [List.length_append,h3];rfl,fun v hv=>?_,fun v hv=>?_⟩,k2⟩
 ·rcases List.mem_append.1 hv with hv|hv
  ·exact h4 v hv
  ·rw [List.mem_singleton.1 hv];exact hk
 ·rcases List.mem_append.1 hv with hv|hv
  ·exact lies_fr (h5 v hv) k2 hp
  ·rw [List.mem_singleton.1 hv];trivial
theorem VS.key {p n:Nat} {L:List Nat} {w:World} (h:VS p L n w) (k:Nat) (hk:k<2 ^ 64) (hn:n≤900) :
  Calls Tryz.prog 58 #[.float .f64 k,.pointer (some ⟨p,0,none⟩)] w fun e w'=>e=.returned (.tuple #[])∧VS p (L++keyB (codeN k)) (n+1) w'∧P.Fr p w w':=by
 obtain ⟨cur,hp⟩:=h.box
 obtain ⟨vs,h1,h2,h3,h4,h5⟩:=h
 refine (byKey_any p vs k w h1 (by omega)).mono ?_
 rintro e w' ⟨rfl,k1,k2⟩
 refine ⟨rfl,⟨_,k1,by rw [packB_snoc,h2];rfl,by rw [List.length_append,h3];rfl,fun v hv=>?_,fun v hv=>?_⟩,k2⟩
 ·rcases List.mem_append.1 hv with hv|hv
  ·exact h4 v hv
  ·rw [List.mem_singleton.1 hv];exact hk
 ·rcases List.mem_append.1 hv with hv|hv
  ·exact lies_fr (h5 v hv) k2 hp
  ·rw [List.mem_singleton.1 hv];trivial
theorem appV2 {w:World} {base:Nat} {a:Option Addr} {c n:Nat} {vs:List PV} (u v:PV) (hn:vs.length=n) (hown:w.ownsRow base 136 5 (.slice a n c) n (pvCells vs)) (hbase:base≤w.heap.size) (hl:n≤1000) :
  ∃ a' c' w',(∀ ty,(Builtin.append_ #[134,134] ty #[.slice a n c,.slice (some ⟨w.heap.size,0,none⟩) 2 2]).run Tryz.prog (w.alloc (.cells (u.enc++v.enc).toArray 136))=.ok (.slice a' (n+2) c') w') ∧
   w'.ownsRow base 136 5 (.slice a' (n+2) c') (n+2) (pvCells (vs++[u,v]))∧w.grownBy w' (Value.slice a n c).ownBlock:=by
 obtain ⟨i0,hi0,hz0,hzs,hzb⟩:=info_parts P.valInfo
 have hown1:=hown.kept (World.grownBy_alloc w (.cells (u.enc++v.enc).toArray 136) none) (by cases (Value.slice a n c).ownBlock <;> simp)
 obtain ⟨v',w',hr,h2,h3⟩:=run_append_own2 (P:=Tryz.prog) (w.alloc (.cells (u.enc++v.enc).toArray 136)) base 134 136 i0 _ 5 56 Tryz.underlying134 hi0 hz0 hzs hzb rfl (by omega) _ _ _ hown1 ⟨w.heap.size,0,none⟩ 2 2 (u.enc++v.enc) (by rw [List.length_append,PV.enc_len,PV.enc_len])
  (fun j x hj=>by
   have hrow:(w.alloc (.cells (u.enc++v.enc).toArray 136)).heap[w.heap.size]? = some (.cells (u.enc++v.enc).toArray 136 (0,0)):=heap_alloc_new w _
   rw [K.addr0,cell_of_row _ _ j _ _ (0,0) hrow]
   rw [←hj];simp) (fun x hx=>by
    rcases List.mem_append.1 hx with hx|hx
    ·exact PV.enc_one u x hx
    ·exact PV.enc_one v x hx) (by omega) (by unfold maxLen;omega) (by omega) (by simp;omega)
 have hc:pvCells vs++(u.enc++v.enc)=pvCells (vs++[u,v]):=by simp [pvCells]
 rw [hc] at h2
 obtain ⟨a',c',rfl⟩:=P.own_sliceV h2
 exact ⟨a',c',w',hr,h2,(World.grownBy_alloc w _ _).trans h3.1⟩
theorem VS.two {p n:Nat} {L:List Nat} {w:World} (h:VS p L n w) (b:Bool) {a:Option Addr} {c:Nat} {l:List Nat} (hl:(∀ x∈l,x<256)∧l.length≤4096∧0<l.length) (hr:w.ownsRow 0 5 1 (.slice a l.length c) l.length (bCells l)) (hn:n≤900) :
  ∃ (va:Option Addr) (vc:Nat) (va':Option Addr) (vc':Nat) (w':World),w.cell? ⟨p,0,none⟩=some (.slice va n vc)∧p<w.heap.size ∧
   (∀ ty,(Builtin.append_ #[134,134] ty #[.slice va n vc,.slice (some ⟨w.heap.size,0,none⟩) 2 2]).run Tryz.prog (w.alloc (.cells #[.int .i64 4,.int .i64 0,.float .f64 0,.slice none 0 0,.bool b,.int .i64 3,.int .i64 0,.float .f64 0,.slice a l.length c,.bool false] 136))=.ok (.slice va' (n+2) vc') w') ∧
   w'.cell? ⟨p,0,none⟩=some (.slice va n vc)∧w'.frozen? ⟨p,0,none⟩=false∧p<w'.heap.size ∧
   VS p (L++((if b=true then 1 else 0) :: (numB l.length++l))) (n+2) (w'.setCell ⟨p,0,none⟩ (.slice va' (n+2) vc'))∧P.Fr p w (w'.setCell ⟨p,0,none⟩ (.slice va' (n+2) vc')):=by
 obtain ⟨vs,⟨va,vc,h1,h2⟩,h3,h4,h5,h6⟩:=h
 subst h4
 have hlt:p<w.heap.size:=(Array.getElem?_eq_some_iff.1 h1).1
 obtain ⟨va',vc',w1,hrun,hown,hg⟩:=appV2 (.flag b) (.raw a c l) rfl h2 (by omega) (by omega)
 have F1:=P.Fr.of_grown h2 hg
 have h1':w1.heap[p]? = some (.cells #[.slice va vs.length vc] 134 (0,0)):=(hg.block p hlt (fun e=>by have:=(h2.lt p e.symm).1;omega)).trans h1
 obtain ⟨k5,k6⟩:=K.set1 (i:=0) h1' (.slice va' (vs.length+2) vc')
 have hl2:(vs++[PV.flag b,PV.raw a c l]).length=vs.length+2:=by simp
 have HF:=F1.trans (P.Fr.of_set k6)
 refine ⟨va,vc,va',vc',w1,by rw [cell_of_row w p 0 _ _ (0,0) h1];rfl,hlt,hrun,by rw [cell_of_row w1 p 0 _ _ (0,0) h1'];rfl,by simp [World.frozen?,h1'],(Array.getElem?_eq_some_iff.1 h1').1,⟨vs++[.flag b,.raw a c l],⟨va',vc',by rw [hl2];exact k5,by rw [hl2];exact hown.kept k6 (.inr fun e=>own_notbox hown e h1' rfl)⟩,?_,hl2,fun v hv=>?_,fun v hv=>?_⟩,HF⟩
 ·show packB (vs++[.flag b,.raw a c l])=_
  rw [←h3]
  simp [packB,PV.bytes]
 ·rcases List.mem_append.1 hv with hv|hv
  ·exact h5 v hv
  ·simp only [List.mem_cons,List.not_mem_nil,or_false] at hv
   rcases hv with rfl|rfl
   ·trivial
   ·exact hl
 ·rcases List.mem_append.1 hv with hv|hv
  ·exact lies_fr (h6 v hv) HF h1
  ·simp only [List.mem_cons,List.not_mem_nil,or_false] at hv
   rcases hv with rfl|rfl
   ·trivial
   ·exact lies_fr (v:=.raw a c l) (P.BL.of_own hr hl.2.2) HF h1
open Go.Proofs.YtdeeoddacnealaaGreat.P (numB keyB codeN encO NumD bCells packB)

def BytesRet (c:CL) (w:World) (e:Ending) (w':World):Prop:=∃ a k,e=.returned (.slice a (bytesC c).length k)∧w'.ownsRow w.heap.size 5 1 (.slice a (bytesC c).length k) (bytesC c).length (bCells (bytesC c))∧Below w.heap.size w w'
theorem pfr_of_below {p:Nat} {w w':World} (h:Below w.heap.size w w'):P.Fr p w w':=⟨h.os,h.tape,h.output,h.size,fun k hk _ _=>h.block k hk⟩
theorem recs_snoc {rs:List RecV} {i:Nat} {r:RecV} (h:rs[i]? = some r):(rs.take (i+1)).flatMap recB=(rs.take i).flatMap recB++((if r.out=true then 1 else 0) :: (numB (encO r.s).length++encO r.s)):=flat_snoc h
theorem own_flat {α:Type} {f:α→List Value} {Kn B n c:Nat} {T:TypeId} {a:Option Addr} {l:List α} {w:World} (hf:∀ x,(f x).length=Kn) (h:w.ownsRow B T Kn (.slice a n c) n (l.flatMap f)) {i:Nat} {x:α} (hx:l[i]? = some x) (hK:0<Kn) :
  ∃ g,a=some ⟨g,0,none⟩∧g<w.heap.size∧∀ t v,(f x)[t]? = some v→w.cell? ⟨g,i * Kn+t,none⟩=some v:=by
 have hlen:=flat_len hf l
 have hi:=(List.getElem?_eq_some_iff.1 hx).1
 rcases h.2 with ⟨_,h2⟩|⟨g,cap,cur,h1,_,h3,_⟩
 ·have e:l.length * Kn=0:=hlen.symm.trans (h.1.trans (by rw [h2];simp))
  have:=Nat.mul_pos (show 0<l.length by omega) hK
  omega
 ·cases h1
  refine ⟨g,rfl,(Array.getElem?_eq_some_iff.1 h3).1,fun t v hv=>?_⟩
  have ht:t<Kn:=by rw [←hf x];exact (List.getElem?_eq_some_iff.1 hv).1
  have:=h.cells (g:=g) rfl (i * Kn+t) v ((flat_get hf hx ht).trans hv)
  rwa [K.addr0] at this
theorem row_pfr {p B n Kn:Nat} {T:TypeId} {v:Value} {cs:List Value} {w w':World} {cur:Array Value} {fr:Nat×Nat} (h:w.ownsRow B T Kn v n cs) (f:P.Fr p w w') (hp:w.heap[p]? = some (.cells cur 134 fr)) (h1:T≠136) (h2:T≠134):w'.ownsRow B T Kn v n cs:=by
 refine row_kept h fun g e=>?_
 rcases h.2 with ⟨h3,_⟩|⟨g',cap,cr,h3,_,h4,_⟩
 ·rw [h3] at e;cases e
 ·rw [h3] at e
  obtain rfl:g'=g:=Option.some.inj e
  rw [f.tag h4 (fun e'=>by subst e';rw [h4] at hp;simp at hp;exact h2 hp.2.1) h1,h4]
theorem own_sl {B n Kn:Nat} {T:TypeId} {v:Value} {cs:List Value} {w:World} (h:w.ownsRow B T Kn v n cs) (hK:0<Kn):∃ a c,v=.slice a n c:=by
 rcases h.2 with ⟨rfl,h0⟩|⟨g,cap,cur,rfl,_⟩
 ·have h1:=h.1
  rw [h0] at h1
  have:n=0:=by
   rcases Nat.eq_zero_or_pos n with h2|h2
   ·exact h2
   ·have:=Nat.mul_pos h2 hK;simp at h1;omega
  exact ⟨none,0,by rw [this]⟩
 ·exact ⟨_,_,rfl⟩
theorem its_snoc {its:List ItV} {i:Nat} {x:ItV} (h:its[i]? = some x):(its.take (i+1)).flatMap itB=(its.take i).flatMap itB++keyB (codeN x.k.bits)++numB x.n:=by rw [flat_snoc h];unfold itB;rw [List.append_assoc]
theorem itqs_snoc {its:List Q.ItV} {i:Nat} {x:Q.ItV} (h:its[i]? = some x):(its.take (i+1)).flatMap itqB=(its.take i).flatMap itqB++keyB (codeN x.k.lo.bits)++keyB (codeN x.k.hi.bits)++numB x.n:=by rw [flat_snoc h];unfold itqB;simp only [List.append_assoc]
def tabsB (c:CL) (j:Nat):List Nat:=headB c++c.recs.flatMap recB++(([c.i1,c.i2,c.i3]:List (List ItV)).take j).flatMap itsB
theorem tab_of {B T:Nat} {c:CL} {ow:Nat→Nat} {w:World} (h:CAt B T c ow w) (hi:∀ x∈c.i1++c.i2++c.i3,0≤x.n∧x.n≤1099511627776) {j:Nat} (hj:j<3) :
  ∃ (t:Nat) (its:List ItV),[c.t1,c.t2,c.t3][j]? = some t∧([c.i1,c.i2,c.i3]:List (List ItV))[j]? = some its∧its.length≤64∧(∀ x∈its,0≤x.n∧x.n≤1099511627776) ∧
   ∀ W,Below w.heap.size w W→Calls Tryz.prog 60 #[.pointer (some ⟨t,0,none⟩)] W (Ret (.int .i64 its.length) W)∧Calls Tryz.prog 61 #[.pointer (some ⟨t,0,none⟩)] W (AllRet W its):=by
 have key:∀ (S:Nat→Prop) (t:Nat) (its:List ItV),TabL S B t (mostI c.old) its w→(its.length≤64∧∀ W,Below w.heap.size w W→Calls Tryz.prog 60 #[.pointer (some ⟨t,0,none⟩)] W (Ret (.int .i64 its.length) W)∧Calls Tryz.prog 61 #[.pointer (some ⟨t,0,none⟩)] W (AllRet W its)):=fun S t its k=>by
  have h1:=k.le;have h2:=k.m64
  refine ⟨by omega,fun W hb=>?_⟩
  obtain ⟨v,hv,_⟩:=(k.kept (S':=S) (fun _ _ h=>h) (fun k hk _=>hb.block k hk)).tab
  exact ⟨tabLen_any hv,tabAll_any hv⟩
 have:j=0∨j=1∨j=2:=by omega
 rcases this with rfl|rfl|rfl
 ·obtain ⟨k1,k2⟩:=key _ _ _ h.k1
  exact ⟨_,_,rfl,rfl,k1,fun x hx=>hi x (by simp [hx]),k2⟩
 ·obtain ⟨k1,k2⟩:=key _ _ _ h.k2
  exact ⟨_,_,rfl,rfl,k1,fun x hx=>hi x (by simp [hx]),k2⟩
 ·obtain ⟨k1,k2⟩:=key _ _ _ h.k3
  exact ⟨_,_,rfl,rfl,k1,fun x hx=>hi x (by simp [hx]),k2⟩
theorem tabq_of {B T:Nat} {c:CL} {ow:Nat→Nat} {w:World} (h:CAt B T c ow w):Calls Tryz.prog 62 #[.pointer (some ⟨c.t4,0,none⟩)] w (Ret (.int .i64 c.i4.length) w)∧Calls Tryz.prog 63 #[.pointer (some ⟨c.t4,0,none⟩)] w (Q.AllRet w c.i4):=by
 obtain ⟨v,hv,_⟩:=h.k4.tab
 exact ⟨Q.tabLen_any hv,Q.tabAll_any hv⟩
theorem big_num {n:Int} (h1:0≤n) (h2:n≤1099511627776):NumD n:=⟨by omega,by omega⟩
set_option maxHeartbeats 8000000 in
set_option maxRecDepth 100000 in
theorem bytes_any {B T:Nat} {c:CL} {ow:Nat→Nat} {w:World} (h:CAt B T c ow w) (hck:∀ r∈c.recs,K.SubV.check r.s=0) (hi:∀ x∈c.i1++c.i2++c.i3,0≤x.n∧x.n≤1099511627776) (hq:∀ x∈c.i4,0≤x.n∧x.n≤1099511627776) :
  Calls Tryz.prog 21 #[.pointer (some ⟨T,0,none⟩)] w (BytesRet c w):=by
 have hmf:∀ (fn:Fn) (first cap:Array Value) (w:World),(Instr.makeFunc fn first cap).run Tryz.prog w=.ok (.func fn first cap) w:=fun _ _ _ _=>rfl
 have HC:=hid h;have HCK:=hid hck;have HI:=hid hi;have HQ:=hid hq
 have hlT:=h.lt.2
 have hcnt:=h.cnt
 have hkp:=h.kp
 clear h hck hi hq
 go_enter Tryz.func21,Tryz.ntmps21
 go_upto_region 4 with fail
 generalize hW1:World.alloc w _=w1
 have hb1:Below w.heap.size w w1:=by rw [←hW1];exact below_auto
 have q1:w1.heap[w.heap.size]? = some (.cells #[.slice none 0 0] 134 (0,0)):=by rw [←hW1];exact heap_alloc_new w _
 obtain ⟨p,hp⟩:∃ p,p=w.heap.size:=⟨_,rfl⟩
 rw [←hp] at q1 ⊢
 have hp1:p<w1.heap.size:=(Array.getElem?_eq_some_iff.1 q1).1
 have V1:VS p [] 0 w1:=⟨[],⟨none,0,q1,⟨rfl,.inl ⟨rfl,rfl⟩⟩⟩,rfl,rfl,by simp,by simp⟩
 have HBW:=hid fun W (f:P.Fr p w1 W)=>(show Below w.heap.size w W from hb1.trans (by have:=f.below (Nat.le_of_lt hp1);rwa [hp] at this))
 have HX:=hid fun W (f:P.Fr p w1 W)=>row9 (HC.out.below (HBW.out W f)).box
 have HP:=hid hp
 have F1:=P.Fr.refl p w1
 clear hW1 hb1 q1 hp hp1
 obtain ⟨t0,t1,t2,t3,t4,t5,t6,t7,t8⟩:=HX.out w1 F1
 go_wp2_with fail
 refine (VS.num V1 c.count (big_num (by omega) (by omega)) (by omega)).mono ?_
 rintro e w2 ⟨rfl,V2,F2⟩
 clear t0 t1 t2 t3 t4 t5 t6 t7 t8 V1 F1
 obtain ⟨t0,t1,t2,t3,t4,t5,t6,t7,t8⟩:=HX.out w2 F2
 go_wp2_with fail
 refine (VS.num V2 c.horizon (big_num (by omega) (by omega)) (by omega)).mono ?_
 rintro e w3 ⟨rfl,V3,F3⟩
 have F3:=F2.trans F3
 clear t0 t1 t2 t3 t4 t5 t6 t7 t8 V2 F2
 obtain ⟨t0,t1,t2,t3,t4,t5,t6,t7,t8⟩:=HX.out w3 F3
 go_wp2_with fail
 refine (VS.num V3 (c.recs.length:Int) (big_num (by omega) (by omega)) (by omega)).mono ?_
 rintro e w4 ⟨rfl,V4,F4⟩
 have V4:=hid (show VS p (headB c) 3 w4 from V4)
 have F4:=hid (F3.trans F4)
 clear t0 t1 t2 t3 t4 t5 t6 t7 t8 V3 F3
 obtain ⟨t0,t1,t2,t3,t4,t5,t6,t7,t8⟩:=HX.out w4 F4.out
 have hl33:c.recs.length≤33:=by omega
 obtain ⟨n,hn⟩:∃ n,n=c.recs.length:=⟨_,rfl⟩
 have HN:=hid hn
 rw [←hn] at t4 hl33
 clear hn
 go_upto_region 8 with fail
 clear t0 t1 t2 t3 t4 t5 t6 t7 t8
 go_loopw [44] (fun t44 wr=>∃ i:Nat,t44=.int .i64 (i:Nat)∧i≤n∧Hid (VS p (headB c++(c.recs.take i).flatMap recB) (3+2 * i) wr)∧Hid (P.Fr p w1 wr)) (fun t44 _=>n-(intOf t44).toNat)
 case atStart=>exact ⟨0,rfl,Nat.zero_le _,hid (by simpa using V4.out),F4⟩
 case round =>
  obtain ⟨i,rfl,hi,V,F⟩:=hrel
  by_cases hlt:i<n
  ·have hlt':(i:Int)<(n:Int):=by omega
   have hltc:i<c.recs.length:=by rw [←HN.out];exact hlt
   obtain ⟨g,hra,hg,hcs⟩:=rec_get HC.out.row i hltc
   have hkx:=rec_some (rs:=c.recs) (k:=i) hltc
   have HKX:=hid hkx
   have HRM:=hid (List.mem_of_getElem? hkx)
   generalize c.recs[i]?.getD default=r at *
   have hbw:=HBW.out wr F.out
   have hsz:=hbw.size
   have hgr:g<wr.heap.size:=by omega
   have kk:=fun j v e=>(hbw.cell (p:=⟨g,i * 8+j,none⟩) hg).trans (hcs j v e)
   have d0:=kk 0 _ rfl
   have d1:=kk 1 _ rfl
   have d2:=kk 2 _ rfl
   have d3:=kk 3 _ rfl
   have d4:=kk 4 _ rfl
   have d5:=kk 5 _ rfl
   have d6:=kk 6 _ rfl
   have d7:=kk 7 _ rfl
   simp only [Nat.add_zero] at d0
   clear kk hcs hkx hltc
   rw [hra]
   go_upto_region 10 with fail
   generalize hW5:World.alloc wr _=w5
   have hb5:Below wr.heap.size wr w5:=by rw [←hW5];exact below_auto
   have qR:w5.heap[wr.heap.size]? = some (.cells #[.int .i64 r.num,.int .i64 r.s.s0,.int .i64 r.s.s1,.int .i64 r.s.s2,.slice r.s.ra r.s.rs.length r.s.rc,.slice r.s.sa r.s.ss.length r.s.sc,.slice r.s.wa r.s.ws.length r.s.wc,.bool r.out] 122 (0,0)):=by rw [←hW5];exact heap_alloc_new wr _
   obtain ⟨R,hR⟩:∃ R,R=wr.heap.size:=⟨_,rfl⟩
   rw [←hR] at qR ⊢
   have V5:=hid (V.out.below hb5)
   have F5:=hid (F.out.trans (pfr_of_below hb5))
   have hRl:=(Array.getElem?_eq_some_iff.1 qR).1
   clear hW5 d0 d1 d2 d3 d4 d5 d6 d7 hgr hb5 hbw hR hsz
   obtain ⟨r0,r1,r2,r3,r4,r5,r6,r7⟩:=row8 qR
   have HAT:=(HC.out.subs r HRM.out).at_
   have HAT5:=HAT.below (HBW.out w5 F5.out)
   have HCR:=HCK.out r HRM.out
   go_wp2_with fail
   refine (P.encode_any r.s w5 HAT5).mono ?_
   rintro e w6 ⟨a6,c6,rfl,hown6,hb6⟩
   have qR6:=(hb6.block _ hRl).trans qR
   have V6:=V5.out.below hb6
   have F6:=hid (F5.out.trans (pfr_of_below hb6))
   have hlen:=encO_len2 HAT HCR
   obtain ⟨va,vc,va',vc',w7,c0,hpl,hrun,c1,f1,hpl7,V7,F7⟩:=V6.two r.out ⟨P.encO_byte r.s,hlen.2,hlen.1⟩ (K.own_le hown6 (Nat.zero_le _)) (by omega)
   have V7:=hid V7
   have F7:=hid (F6.out.trans F7)
   have HE:=hid (show (headB c++(c.recs.take i).flatMap recB)++((if r.out=true then 1 else 0) :: (numB (encO r.s).length++encO r.s))=headB c++(c.recs.take (i+1)).flatMap recB from by rw [recs_snoc HKX.out,List.append_assoc])
   rw [HE.out] at V7
   obtain ⟨ln,hln⟩:∃ l,l=(encO r.s).length:=⟨_,rfl⟩
   rw [←hln] at hrun ⊢
   clear r0 r1 r2 r3 r4 r5 r6 r7 hown6 hb6 HAT HAT5 HCR hlen hln HE V6 qR hRl hg
   obtain ⟨r0,r1,r2,r3,r4,r5,r6,r7⟩:=row8 qR6
   have hRl:=(Array.getElem?_eq_some_iff.1 qR6).1
   go_wp2_with (at_builtin;refine Lib.wpList_append_run _ rfl _ _ _ _ rfl _ _ rfl rfl _ _ (hrun _) ?_)
   go_roundw
   case rel=>exact ⟨i+1,by go_num,by omega,V7,F7⟩
   case measure=>simp [intOf];omega
  ·obtain rfl:i=n:=by omega
   have V:=hid (show VS p (tabsB c 0) (3+2 * i) wr from by have:=V.out;rw [List.take_of_length_le (by rw [←HN.out];exact Nat.le_refl _)] at this;unfold tabsB;simpa using this)
   have hge:¬(i:Int)<(i:Int):=by omega
   obtain ⟨t0,t1,t2,t3,t4,t5,t6,t7,t8⟩:=HX.out wr F.out
   go_upto_region 13 with fail
   go_region
   generalize hW8:World.drew _=w8
   have hb8:Below wr.heap.size wr w8:=by rw [←hW8];exact Below.drew (by exact below_auto)
   have qG:w8.heap[wr.heap.size]? = some (.cells #[.pointer (some ⟨c.t1,0,none⟩),.pointer (some ⟨c.t2,0,none⟩),.pointer (some ⟨c.t3,0,none⟩)] 105 (0,0)):=by rw [←hW8];exact heap_alloc_new wr _
   obtain ⟨G,hG⟩:∃ G,G=wr.heap.size:=⟨_,rfl⟩
   rw [←hG] at qG ⊢
   have V8:=hid (V.out.below hb8)
   have F8:=hid (F.out.trans (pfr_of_below hb8))
   have HG:=hid qG
   have hGp:G≠p:=by
    obtain ⟨cur,hp⟩:=V8.out.box
    intro e
    rw [e,hp] at qG
    simp at qG
   clear hW8 hb8 hG qG t0 t1 t2 t3 t4 t5 t6 t7 t8 V F
   go_upto_region 14 with fail
   go_loopw [78] (fun t78 wy=>∃ (j m:Nat),t78=.int .i64 (j:Nat)∧j≤3∧m≤69+129 * j∧Hid (VS p (tabsB c j) m wy)∧Hid (P.Fr p w8 wy)) (fun t78 _=>3-(intOf t78).toNat)
   case atStart=>exact ⟨0,_,rfl,Nat.zero_le _,by omega,V8,hid (P.Fr.refl _ _)⟩
   case round =>
    obtain ⟨j,m,rfl,hj,hm,V,F⟩:=hrel
    have hbw:=HBW.out wr (F8.out.trans F.out)
    by_cases hjl:j<3
    ·have hjl':(j:Int)<3:=by omega
     obtain ⟨t,its,ht,hits,hil,hin,hcalls⟩:=tab_of HC.out HI.out hjl
     have HIN:=hid hin
     have HTS:=hid (show tabsB c (j+1)=tabsB c j++itsB its from by unfold tabsB;rw [flat_snoc hits];simp only [List.append_assoc])
     have qG:=F.out.tag HG.out hGp (by decide)
     have kG:wr.cell? ⟨G,j,none⟩=some (.pointer (some ⟨t,0,none⟩)):=by
      rw [cell_of_row wr _ _ _ _ (0,0) qG]
      have:j=0∨j=1∨j=2:=by omega
      rcases this with rfl|rfl|rfl <;> cases ht <;> rfl
     have HCB:=hid fun W (f:P.Fr p w1 W)=>hcalls W (HBW.out W f)
     have HF0:=hid (F8.out.trans F.out)
     have hL0:=(HCB.out wr HF0.out).1
     clear ht hits hin qG hbw hcalls
     obtain ⟨k0,hk0⟩:∃ k,k=its.length:=⟨_,rfl⟩
     have HK0:=hid hk0
     rw [←hk0] at hL0 hil
     clear hk0
     go_upto_region 16 with fail
     go_wp2_with fail
     refine hL0.mono ?_
     rintro e w9 ⟨rfl,hb9⟩
     have V9:=V.out.below hb9
     have F9:=F.out.trans (pfr_of_below hb9)
     clear kG hL0
     go_wp2_with fail
     refine (VS.num V9 (k0:Int) ⟨by omega,by omega⟩ (by omega)).mono ?_
     rintro e w10 ⟨rfl,V10,F10⟩
     have V10:=hid V10
     have F10:=hid (F9.trans F10)
     have hA0:=(HCB.out w10 (F8.out.trans F10.out)).2
     clear V9 F9 hb9
     go_wp2_with fail
     refine hA0.mono ?_
     rintro e w11 ⟨va,rfl,hown,hb11⟩
     obtain ⟨ra,rc,rfl⟩:=own_sl hown (by decide)
     have V11:=V10.out.below hb11
     have F11:=hid (F10.out.trans (pfr_of_below hb11))
     have hpb:=V11.box
     have HOWN:=hid hown
     have V11:=hid V11
     rw [←HK0.out]
     clear hA0 hb11 V10 F10 hown
     go_upto_region 18 with fail
     go_loopw [89] (fun t89 wi=>∃ (k q:Nat),t89=.int .i64 (k:Nat)∧k≤k0∧q≤m+1+2 * k∧Hid (VS p (tabsB c j++numB (k0:Int)++(its.take k).flatMap itB) q wi)∧Hid (P.Fr p w11 wi)) (fun t89 _=>k0-(intOf t89).toNat)
     case atStart=>exact ⟨0,m+1,rfl,Nat.zero_le _,by omega,hid (by simpa using V11.out),hid (P.Fr.refl _ _)⟩
     case round =>
      obtain ⟨k,q,rfl,hk,hq,V,F⟩:=hrel
      by_cases hkl:k<k0
      ·have hkl':(k:Int)<(k0:Int):=by omega
       obtain ⟨cur,hpb⟩:=hpb
       obtain ⟨x,hx⟩:∃ x,its[k]? = some x:=⟨_,List.getElem?_eq_getElem (by rw [←HK0.out];exact hkl)⟩
       have hrow:wr.ownsRow w10.heap.size 146 2 (.slice ra its.length rc) its.length (itCells its):=row_pfr HOWN.out F.out hpb (by decide) (by decide)
       obtain ⟨g,hra,hgl,hcs⟩:=own_flat (f:=ItV.enc) ItV.enc_len hrow hx (by decide)
       clear hrow
       have d0:=hcs 0 _ rfl
       have d1:=hcs 1 _ rfl
       rw [Nat.add_zero] at d0
       have hxi:=HIN.out x (List.mem_of_getElem? hx)
       have HXS:=hid (its_snoc hx)
       rw [hra]
       clear hcs hx
       go_upto_region 20 with fail
       generalize hWx:World.alloc _ _=wx
       have hbx:Below wr.heap.size wr wx:=by rw [←hWx];exact below_auto
       have qX:wx.heap[wr.heap.size]? = some (.cells #[.float .f64 x.k.bits,.int .i64 x.n] 146 (0,0)):=by rw [←hWx];exact heap_alloc_new wr _
       obtain ⟨X,hX⟩:∃ X,X=wr.heap.size:=⟨_,rfl⟩
       rw [←hX] at qX ⊢
       have Vx:=V.out.below hbx
       have Fx:=F.out.trans (pfr_of_below hbx)
       have hXp:X≠p:=by
        obtain ⟨cur',hp'⟩:=Vx.box
        intro e
        rw [e,hp'] at qX
        simp at qX
       clear hWx d0 d1 hgl hbx hX
       obtain ⟨x0,x1,-,-⟩:=row2 qX
       go_wp2_with fail
       refine (VS.key Vx x.k.bits x.k.bits_lt (by omega)).mono ?_
       rintro e wy ⟨rfl,Vy,Fy⟩
       have qX:=Fy.tag qX hXp (by decide)
       have Fy:=Fx.trans Fy
       clear x0 x1 Vx Fx
       obtain ⟨x0,x1,-,-⟩:=row2 qX
       go_wp2_with fail
       refine (VS.num Vy x.n (big_num hxi.1 hxi.2) (by omega)).mono ?_
       rintro e wz ⟨rfl,Vz,Fz⟩
       have Fz:=hid (Fy.trans Fz)
       have Vz:=hid (show VS p (tabsB c j++numB (k0:Int)++(its.take (k+1)).flatMap itB) (q+1+1) wz from by rw [HXS.out];simpa only [List.append_assoc] using Vz)
       clear x0 x1 Vy Fy
       go_wp2_with fail
       go_roundw
       case rel=>exact ⟨k+1,_,by go_num,by omega,by omega,Vz,Fz⟩
       case measure=>simp [intOf];omega
      ·obtain rfl:k=k0:=by omega
       have hge2:¬(k:Int)<(k:Int):=by omega
       have V2:=hid (show VS p (tabsB c (j+1)) q wr from by
        have h1:=V.out
        rw [List.take_of_length_le (by rw [←HK0.out];exact Nat.le_refl _)] at h1
        rw [HTS.out]
        unfold itsB
        rw [←HK0.out,←List.append_assoc]
        exact h1)
       have F2:=hid (F11.out.trans F.out)
       go_wp2_with fail
       go_roundw
       case rel=>exact ⟨j+1,q,by go_num,by omega,by omega,V2,F2⟩
       case measure=>simp [intOf];omega
    ·obtain rfl:j=3:=by omega
     have hge3:¬((3:Nat):Int)<3:=by omega
     have HF0:=hid (F8.out.trans F.out)
     have HCB:=hid fun W (f:P.Fr p w1 W)=>tabq_of (HC.out.below (HBW.out W f))
     obtain ⟨t0,t1,t2,t3,t4,t5,t6,t7,t8⟩:=HX.out wr HF0.out
     have hL0:=(HCB.out wr HF0.out).1
     have hil:c.i4.length≤64:=by have h1:=HC.out.k4.le;have h2:=HC.out.k4.m64;omega
     obtain ⟨k0,hk0⟩:∃ k,k=c.i4.length:=⟨_,rfl⟩
     have HK0:=hid hk0
     rw [←hk0] at hL0 hil
     clear hk0 F
     go_wp2_with fail
     refine hL0.mono ?_
     rintro e w9 ⟨rfl,hb9⟩
     have V9:=V.out.below hb9
     have F9:=HF0.out.trans (pfr_of_below hb9)
     clear hL0 t0 t1 t2 t3 t4 t5 t6 t7 t8
     go_wp2_with fail
     refine (VS.num V9 (k0:Int) ⟨by omega,by omega⟩ (by omega)).mono ?_
     rintro e w10 ⟨rfl,V10,F10⟩
     have V10:=hid V10
     have F10:=hid (F9.trans F10)
     have hA0:=(HCB.out w10 F10.out).2
     obtain ⟨t0,t1,t2,t3,t4,t5,t6,t7,t8⟩:=HX.out w10 F10.out
     clear V9 F9 hb9
     go_wp2_with fail
     refine hA0.mono ?_
     rintro e w11 ⟨va,rfl,hown,hb11⟩
     obtain ⟨ra,rc,rfl⟩:=own_sl hown (by decide)
     have V11:=V10.out.below hb11
     have F11:=hid (F10.out.trans (pfr_of_below hb11))
     have hpb:=V11.box
     have HOWN:=hid hown
     have V11:=hid V11
     rw [←HK0.out]
     clear hA0 hb11 V10 F10 hown t0 t1 t2 t3 t4 t5 t6 t7 t8
     go_upto_region 26 with fail
     go_loopw [116] (fun t116 wi=>∃ (k q:Nat),t116=.int .i64 (k:Nat)∧k≤k0∧q≤m+1+3 * k∧Hid (VS p (tabsB c 3++numB (k0:Int)++(c.i4.take k).flatMap itqB) q wi)∧Hid (P.Fr p w11 wi)) (fun t116 _=>k0-(intOf t116).toNat)
     case atStart=>exact ⟨0,m+1,rfl,Nat.zero_le _,by omega,hid (by simpa using V11.out),hid (P.Fr.refl _ _)⟩
     case round =>
      obtain ⟨k,q,rfl,hk,hq,V,F⟩:=hrel
      by_cases hkl:k<k0
      ·have hkl':(k:Int)<(k0:Int):=by omega
       obtain ⟨cur,hpb⟩:=hpb
       obtain ⟨x,hx⟩:∃ x,c.i4[k]? = some x:=⟨_,List.getElem?_eq_getElem (by rw [←HK0.out];exact hkl)⟩
       have hrow:wr.ownsRow w10.heap.size 152 5 (.slice ra c.i4.length rc) c.i4.length (Q.itCells c.i4):=row_pfr HOWN.out F.out hpb (by decide) (by decide)
       obtain ⟨g,hra,hgl,hcs⟩:=own_flat (f:=Q.ItV.enc) Q.ItV.enc_len hrow hx (by decide)
       have d0:=hcs 0 _ rfl
       have d1:=hcs 1 _ rfl
       have d2:=hcs 2 _ rfl
       have d3:=hcs 3 _ rfl
       have d4:=hcs 4 _ rfl
       rw [Nat.add_zero] at d0
       have hxi:=HQ.out x (List.mem_of_getElem? hx)
       have HXS:=hid (itqs_snoc hx)
       rw [hra]
       clear hcs hx hrow
       go_upto_region 28 with fail
       generalize hWx:World.alloc _ _=wx
       have hbx:Below wr.heap.size wr wx:=by rw [←hWx];exact below_auto
       have qX:wx.heap[wr.heap.size]? = some (.cells #[.float .f64 x.k.lo.bits,.float .f64 x.k.hi.bits,.bool false,.bool false,.int .i64 x.n] 152 (0,0)):=by rw [←hWx];exact heap_alloc_new wr _
       obtain ⟨X,hX⟩:∃ X,X=wr.heap.size:=⟨_,rfl⟩
       rw [←hX] at qX ⊢
       have Vx:=V.out.below hbx
       have Fx:=F.out.trans (pfr_of_below hbx)
       have hXp:X≠p:=by
        obtain ⟨cur',hp'⟩:=Vx.box
        intro e
        rw [e,hp'] at qX
        simp at qX
       clear hWx d0 d1 d2 d3 d4 hgl hbx hX
       have x0:wx.cell? ⟨X,0,none⟩=some (.float .f64 x.k.lo.bits):=by rw [cell_of_row wx _ _ _ _ (0,0) qX];rfl
       go_wp2_with fail
       refine (VS.key Vx x.k.lo.bits x.k.lo.bits_lt (by omega)).mono ?_
       rintro e wy ⟨rfl,Vy,Fy⟩
       have qX:=Fy.tag qX hXp (by decide)
       have Fy:=Fx.trans Fy
       clear x0 Vx Fx
       have x1:wy.cell? ⟨X,1,none⟩=some (.float .f64 x.k.hi.bits):=by rw [cell_of_row wy _ _ _ _ (0,0) qX];rfl
       go_wp2_with fail
       refine (VS.key Vy x.k.hi.bits x.k.hi.bits_lt (by omega)).mono ?_
       rintro e wu ⟨rfl,Vu,Fu⟩
       have qX:=Fu.tag qX hXp (by decide)
       have Fu:=Fy.trans Fu
       clear x1 Vy Fy
       have x4:wu.cell? ⟨X,4,none⟩=some (.int .i64 x.n):=by rw [cell_of_row wu _ _ _ _ (0,0) qX];rfl
       go_wp2_with fail
       refine (VS.num Vu x.n (big_num hxi.1 hxi.2) (by omega)).mono ?_
       rintro e wz ⟨rfl,Vz,Fz⟩
       have Fz:=hid (Fu.trans Fz)
       have Vz:=hid (show VS p (tabsB c 3++numB (k0:Int)++(c.i4.take (k+1)).flatMap itqB) (q+1+1+1) wz from by rw [HXS.out];simpa only [List.append_assoc] using Vz)
       clear x4 Vu Fu
       go_wp2_with fail
       go_roundw
       case rel=>exact ⟨k+1,_,by go_num,by omega,by omega,Vz,Fz⟩
       case measure=>simp [intOf];omega
      ·obtain rfl:k=k0:=by omega
       have hge2:¬(k:Int)<(k:Int):=by omega
       obtain ⟨vs,⟨av,cv,hbox,hrow⟩,hpk,hlen,hok,hlie⟩:=V.out
       have hall:packB vs=bytesC c:=by
        rw [hpk,List.take_of_length_le (by rw [←HK0.out];exact Nat.le_refl _)]
        unfold bytesC itqsB tabsB
        rw [←HK0.out]
        simp [List.append_assoc]
       have c0:wr.cell? ⟨p,0,none⟩=some (.slice av vs.length cv):=by rw [cell_of_row wr _ _ _ _ (0,0) hbox];rfl
       have hp0:p<wr.heap.size:=(Array.getElem?_eq_some_iff.1 hbox).1
       have HPut:=hid (P.put_any av cv vs.length vs wr rfl (P.VBox.vat hrow rfl) hok hlie (by omega))
       have hbw:=HBW.out wr (F11.out.trans F.out)
       have HALL:=hid hall
       obtain ⟨vn,hvn⟩:∃ n,n=vs.length:=⟨_,rfl⟩
       rw [←hvn] at c0 HPut
       clear hpk hlen hok hlie hall hbox hrow hvn V F
       go_wp2_with fail
       refine HPut.out.mono ?_
       rw [HALL.out]
       rintro e w12 ⟨a12,c12,rfl,hown12,hb12⟩
       have HR:Hid (BytesRet c w (.returned (.slice a12 (bytesC c).length c12)) w12):=hid ⟨a12,c12,rfl,K.own_le hown12 hbw.size,hbw.trans (hb12.mono hbw.size)⟩
       clear hown12 hb12
       generalize (bytesC c).length=ln at *
       go_wp2_with fail
       exact bodyPost_ret (v:=.slice a12 ln c12) (by simp [results,Tryz.results21,go_sem]) rfl HR.out

end Go.Proofs.YtdeeoddacnealaaGreat.C