/- Several texts as one: PG PE PF PS PW. -/
import Derived.Test.YtdeeoddacnealaaGreatMPA
import Derived.Test.YtdeeoddacnealaaGreatMKE
set_option linter.unusedVariables false
namespace Go.Proofs.YtdeeoddacnealaaGreat.P
open Go.RowKit Fl

def encNums (x:SubV):List Int:=[x.s0,x.s1,x.s2,(x.rs.length:Int)]
def encS (ss:List SpanV):List PV:=ss.flatMap fun s=>[.key s.lo,.key s.hi]
def valsOf (x:SubV):List PV:=(encNums x).map .num++x.rs.map .key++[PV.num x.ss.length]++encS x.ss++[PV.num x.ws.length]++x.ws.map .key
def encO (x:SubV):List Nat:=if K.SubV.check x=0 then packB (valsOf x) else []
theorem check0 {x:SubV} (h:K.SubV.check x=0):K.SubV.nb x=true∧K.SubV.mb x=false∧K.ordF x.rs=true∧K.ordF x.ws=true∧K.ordS x.ss=true:=by
 unfold K.SubV.check at h
 generalize K.SubV.nb x=p at *
 generalize K.SubV.mb x=q at *
 generalize x.rs.any isNaN=a at *
 generalize x.ws.any isNaN=b at *
 generalize K.hasE x.ss=c at *
 generalize K.ordF x.rs=d at *
 generalize K.ordF x.ws=e at *
 generalize K.ordS x.ss=f at *
 revert h
 cases p <;> cases q <;> cases a <;> cases b <;> cases c <;> cases d <;> cases e <;> cases f <;> decide
theorem ordF_key {xs:List Nat} (h:K.ordF xs=true):∀ y∈xs,cbits y=y:=by
 unfold K.ordF at h
 rw [decide_eq_true_eq] at h
 intro y hy
 rw [h] at hy
 obtain ⟨c,_,rfl⟩:=List.mem_map.1 hy
 exact c.ok
theorem ordS_key {ss:List SpanV} (h:K.ordS ss=true):∀ s∈ss,cbits s.lo=s.lo∧cbits s.hi=s.hi∧s.a=false∧s.b=false:=by
 unfold K.ordS at h
 rw [decide_eq_true_eq] at h
 intro s hs
 rw [h] at hs
 obtain ⟨c,_,rfl⟩:=List.mem_map.1 hs
 exact ⟨cbits_key _,cbits_key _,rfl,rfl⟩
abbrev Dt:=Int×Int×Int×List Nat×List (Nat×Nat)×List Nat
def rowK (xs:List Nat):List Nat:=numB xs.length++xs.flatMap fun x=>keyB (codeN x)
def rowS (xs:List (Nat×Nat)):List Nat:=numB xs.length++xs.flatMap fun p=>keyB (codeN p.1)++keyB (codeN p.2)
def dB (t:Dt):List Nat:=numB t.1++(numB t.2.1++(numB t.2.2.1++(rowK t.2.2.2.1++(rowS t.2.2.2.2.1++rowK t.2.2.2.2.2))))
def getSp:=both getKey getKey
def parse:List Nat→Option (Dt×List Nat):=both getNum (both getNum (both getNum (both (getRow 16 getKey) (both (getRow 8 getSp) (getRow 16 getKey)))))
def DtD (t:Dt):Prop:=NumD t.1∧NumD t.2.1∧NumD t.2.2.1∧(t.2.2.2.1.length≤16∧∀ x∈t.2.2.2.1,KeyD x)∧(t.2.2.2.2.1.length≤8∧∀ p∈t.2.2.2.2.1,KeyD p.1∧KeyD p.2)∧(t.2.2.2.2.2.length≤16∧∀ x∈t.2.2.2.2.2,KeyD x)
theorem parse_good:Good parse dB DtD :=
 both_good num_good (both_good num_good (both_good num_good (both_good (row_good 16 (by decide) key_good) (both_good (row_good 8 (by decide) (both_good key_good key_good)) (row_good 16 (by decide) key_good)))))
def spOf (p:Nat×Nat):SpanV:=⟨p.1,p.2,false,false⟩
def ofD (t:Dt):SubV:=⟨t.1,t.2.1,t.2.2.1,none,0,t.2.2.2.1,none,0,t.2.2.2.2.1.map spOf,none,0,t.2.2.2.2.2⟩
def toD (x:SubV):Dt:=(x.s0,x.s1,x.s2,x.rs,x.ss.map (fun s=>(s.lo,s.hi)),x.ws)
theorem toD_ofD (t:Dt):toD (ofD t)=t:=by
 obtain ⟨a,b,c,d,e,f⟩:=t
 unfold toD ofD
 simp only [List.map_map,Prod.mk.injEq,true_and,and_true]
 have:(fun s:SpanV=>(s.lo,s.hi)) ∘ spOf=id:=rfl
 rw [this,List.map_id]
structure SameD (x y:SubV):Prop where
 s0:x.s0=y.s0
 s1:x.s1=y.s1
 s2:x.s2=y.s2
 rs:x.rs=y.rs
 ss:x.ss=y.ss
 ws:x.ws=y.ws
theorem SameD.check {x y:SubV} (h:SameD x y):K.SubV.check x=K.SubV.check y:=by
 obtain ⟨h1,h2,h3,h4,h5,h6⟩:=h
 unfold K.SubV.check K.SubV.nb K.SubV.mb
 rw [h1,h2,h3,h4,h5,h6]
theorem sameD_of {x y:SubV} (h:toD x=toD y) (hx:∀ s∈x.ss,s.a=false∧s.b=false) (hy:∀ s∈y.ss,s.a=false∧s.b=false):SameD x y:=by
 unfold toD at h
 simp only [Prod.mk.injEq] at h
 obtain ⟨h1,h2,h3,h4,h5,h6⟩:=h
 refine ⟨h1,h2,h3,h4,?_,h6⟩
 have back:∀ l:List SpanV,(∀ s∈l,s.a=false∧s.b=false)→(l.map fun s=>(s.lo,s.hi)).map spOf=l:=by
  intro l hl
  rw [List.map_map]
  conv=>rhs;rw [←List.map_id l]
  refine List.map_congr_left fun s hs=>?_
  obtain ⟨a,b,c,d⟩:=s
  obtain ⟨e1,e2⟩:=hl _ hs
  simp only at e1 e2
  subst e1;subst e2;rfl
 rw [←back x.ss hx,h5,back y.ss hy]
theorem right_D {x:SubV} (h:K.SubV.check x=0):DtD (toD x)∧(∀ s∈x.ss,s.a=false∧s.b=false):=by
 obtain ⟨h1,h2,h3,h4,h5⟩:=check0 h
 obtain ⟨n1,n2,n3,n4,n5,n6⟩:=K.nb_true h1
 obtain ⟨l1,l2,l3⟩:=K.mb_false h2
 refine ⟨⟨⟨?_,?_⟩,⟨?_,?_⟩,⟨?_,?_⟩,⟨?_,ordF_key h3⟩,⟨?_,?_⟩,⟨?_,ordF_key h4⟩⟩,fun s hs=>⟨(ordS_key h5 s hs).2.2.1,(ordS_key h5 s hs).2.2.2⟩⟩
 any_goals (simp only [toD,List.length_map];omega)
 ·intro p hp
  obtain ⟨s,hs,rfl⟩:=List.mem_map.1 hp
  exact ⟨(ordS_key h5 s hs).1,(ordS_key h5 s hs).2.1⟩
theorem packB_keys (l:List Nat):packB (l.map .key)=l.flatMap fun x=>keyB (codeN x):=by
 induction l with
 | nil=>rfl
 | cons x l ih=>unfold packB at *;rw [List.map_cons,List.flatMap_cons,List.flatMap_cons,ih];rfl
theorem packB_spans (l:List SpanV):packB (encS l)=(l.map fun s=>(s.lo,s.hi)).flatMap fun p=>keyB (codeN p.1)++keyB (codeN p.2):=by
 induction l with
 | nil=>rfl
 | cons x l ih=>unfold encS packB at *;rw [List.flatMap_cons,List.flatMap_append,ih,List.map_cons,List.flatMap_cons];simp [PV.bytes]
theorem packB_append (a b:List PV):packB (a++b)=packB a++packB b:=List.flatMap_append
theorem packB_dB (x:SubV):packB (valsOf x)=dB (toD x):=by
 unfold valsOf dB toD rowK rowS
 rw [packB_append,packB_append,packB_append,packB_append,packB_append,packB_keys,packB_keys,packB_spans]
 simp [packB,PV.bytes,encNums]
def dec (b:List Nat):Option Dt:=match parse b with
 | none=>none
 | some (t,r)=>if r=[]∧K.SubV.check (ofD t)=0 then some t else none
theorem dec_some {b:List Nat} {t:Dt} (h:dec b=some t):parse b=some (t,[])∧K.SubV.check (ofD t)=0:=by
 unfold dec at h
 cases hp:parse b with
 | none=>rw [hp] at h;cases h
 | some q =>
  obtain ⟨t',r⟩:=q
  rw [hp] at h
  simp only at h
  by_cases hc:r=[]∧K.SubV.check (ofD t')=0
  ·rw [if_pos hc] at h
   cases h
   rw [hc.1];exact ⟨rfl,hc.2⟩
  ·rw [if_neg hc] at h;cases h
theorem enc_dec {x:SubV} (h:K.SubV.check x=0):dec (encO x)=some (toD x)∧SameD (ofD (toD x)) x:=by
 obtain ⟨h1,h2⟩:=right_D h
 have hs:SameD (ofD (toD x)) x:=sameD_of (toD_ofD _) (fun s hs=>by
  obtain ⟨p,_,rfl⟩:=List.mem_map.1 hs;exact ⟨rfl,rfl⟩) h2
 refine ⟨?_,hs⟩
 have:=parse_good.fwd (toD x) [] h1
 rw [List.append_nil] at this
 unfold dec encO
 rw [if_pos h,packB_dB,this]
 exact if_pos ⟨rfl,hs.check.trans h⟩
def PV.plain:PV→Bool
 | .raw _ _ _=>false
 | .flag _=>false
 | _=>true
theorem vals_plain (x:SubV):∀ v∈valsOf x,v.plain=true:=by
 intro v hv
 unfold valsOf at hv
 simp only [List.mem_append,List.mem_map,List.mem_singleton] at hv
 rcases hv with ((((⟨n,hn,rfl⟩|⟨y,hy,rfl⟩)|rfl)|hv)|rfl)|⟨y,hy,rfl⟩
 any_goals rfl
 unfold encS at hv
 obtain ⟨s,hs1,hs2⟩:=List.mem_flatMap.1 hv
 simp only [List.mem_cons,List.not_mem_nil,or_false] at hs2
 rcases hs2 with rfl|rfl <;> rfl
theorem encO_byte (x:SubV):∀ c∈encO x,c<256:=by
 have hk:∀ u,∀ c∈keyB u,c<256:=fun u c hc=>by
  unfold keyB at hc
  simp only [List.mem_cons,List.not_mem_nil,or_false] at hc
  rcases hc with rfl|rfl|rfl|rfl|rfl|rfl|rfl|rfl <;> exact Nat.mod_lt _ (by decide)
 intro c hc
 unfold encO at hc
 by_cases h:K.SubV.check x=0
 ·rw [if_pos h] at hc
  unfold packB at hc
  obtain ⟨v,hv0,hv⟩:=List.mem_flatMap.1 hc
  have hv1:=vals_plain x v hv0
  cases v with
  | num n=>exact vlq_byte _ c hv
  | key k=>exact hk _ c hv
  | _=>cases hv1
 ·rw [if_neg h] at hc;cases hc

theorem valInfo:(Tryz.prog.info? 136).map (fun i=>(i.zero,i.size,i.bytes))=some (some (.agg #[.int .i64 0,.int .i64 0,.float .f64 0,.slice none 0 0,.bool false]),5,56):=by kernel_rfl
theorem own_sliceV {w:World} {B n:Nat} {v:Value} {cs:List Value} (h:w.ownsRow B 136 5 v n cs):∃ va vc,v=.slice va n vc:=by
 rcases h.2 with ⟨rfl,h0⟩|⟨g,cap,cur,rfl,_⟩
 ·exact ⟨none,0,by rw [h0]⟩
 ·exact ⟨_,_,rfl⟩
theorem appV {w:World} {base:Nat} {a:Option Addr} {c n:Nat} {vs:List PV} (v:PV) (hn:vs.length=n) (hown:w.ownsRow base 136 5 (.slice a n c) n (pvCells vs)) (hbase:base≤w.heap.size) (hl:n≤1000000) :
  ∃ a' c' w',(∀ ty,(Builtin.append_ #[134,134] ty #[.slice a n c,.slice (some ⟨w.heap.size,0,none⟩) 1 1]).run Tryz.prog (w.alloc (.cells v.enc.toArray 136))=.ok (.slice a' (n+1) c') w') ∧
   w'.ownsRow base 136 5 (.slice a' (n+1) c') (n+1) (pvCells (vs++[v]))∧w.grownBy w' (Value.slice a n c).ownBlock:=by
 obtain ⟨i0,hi0,hz0,hzs,hzb⟩:=info_parts valInfo
 have hown1:=hown.kept (World.grownBy_alloc w (.cells v.enc.toArray 136) none) (by cases (Value.slice a n c).ownBlock <;> simp)
 obtain ⟨v',w',hr,h2,h3⟩:=run_append_own2 (P:=Tryz.prog) (w.alloc (.cells v.enc.toArray 136)) base 134 136 i0 _ 5 56 Tryz.underlying134 hi0 hz0 hzs hzb rfl (by omega) _ _ _ hown1 ⟨w.heap.size,0,none⟩ 1 1 v.enc (by rw [PV.enc_len])
  (fun j u hj=>by
   have hrow:(w.alloc (.cells v.enc.toArray 136)).heap[w.heap.size]? = some (.cells v.enc.toArray 136 (0,0)):=heap_alloc_new w _
   rw [K.addr0,cell_of_row _ _ j _ _ (0,0) hrow]
   rw [←hj];simp) (PV.enc_one v) (by omega) (by unfold maxLen;omega) (by omega) (by simp;omega)
 have hc:pvCells vs++v.enc=pvCells (vs++[v]):=by simp [pvCells]
 rw [hc] at h2
 obtain ⟨a',c',rfl⟩:=own_sliceV h2
 exact ⟨a',c',w',hr,h2,(World.grownBy_alloc w _ _).trans h3.1⟩

structure Fr (p:Nat) (w w':World):Prop where
 os:w'.os=w.os
 tape:w'.tape=w.tape
 output:w'.output=w.output
 size:w.heap.size≤w'.heap.size
 block:∀ k,k<w.heap.size→k≠p→(k<p∨∀ cur fr,w.heap[k]?≠some (.cells cur 136 fr))→w'.heap[k]? = w.heap[k]?
theorem Fr.refl (p:Nat) (w:World):Fr p w w:=⟨rfl,rfl,rfl,Nat.le_refl _,fun _ _ _ _=>rfl⟩
theorem Fr.trans {p:Nat} {a b c:World} (h:Fr p a b) (k:Fr p b c):Fr p a c :=
 ⟨k.os.trans h.os,k.tape.trans h.tape,k.output.trans h.output,Nat.le_trans h.size k.size,fun j hj hp ht=>by
  have e:=h.block j hj hp ht
  exact (k.block j (Nat.lt_of_lt_of_le hj h.size) hp (ht.imp id fun h2 cur fr=>by rw [e];exact h2 cur fr)).trans e⟩
theorem Fr.alloc {p:Nat} {a b:World} (h:Fr p a b) (o:Obj):Fr p a (b.alloc o) :=
 h.trans ⟨rfl,rfl,rfl,by simp,fun k hk _ _=>(World.grownBy_alloc b o none).block k hk (by simp)⟩
theorem Fr.below {p:Nat} {a b:World} (h:Fr p a b) (hp:p≤a.heap.size):Below p a b:=⟨h.os,h.tape,h.output,h.size,fun k hk=>h.block k (by omega) (by omega) (.inl hk)⟩
theorem Fr.tag {p q:Nat} {a b:World} {cur:Array Value} {T:TypeId} {fr:Nat×Nat} (h:Fr p a b) (hq:a.heap[q]? = some (.cells cur T fr)) (hp:q≠p) (hT:T≠136):b.heap[q]? = some (.cells cur T fr):=by
 have hlt:q<a.heap.size:=(Array.getElem?_eq_some_iff.1 hq).1
 rw [h.block q hlt hp (.inr fun c f=>by rw [hq];simp;intro _ h2;exact absurd h2 hT),hq]
theorem Fr.of_grown {p:Nat} {w w':World} {a:Option Addr} {c n:Nat} {cs:List Value} (hown:w.ownsRow (p+1) 136 5 (.slice a n c) n cs) (h:w.grownBy w' (Value.slice a n c).ownBlock):Fr p w w':=by
 refine ⟨h.os,h.tape,h.output,h.size,fun k hk hp ht=>h.block k hk fun e=>?_⟩
 rcases hown.2 with ⟨h1,_⟩|⟨g,cap,cur,h1,hb,hb2,_⟩
 ·rw [h1] at e;cases e
 ·rw [h1] at e
  obtain rfl:k=g:=Option.some.inj e
  rcases ht with ht|ht
  ·omega
  ·exact ht _ _ hb2
theorem Fr.of_set {p:Nat} {w w':World} (h:w.grownBy w' (some p)):Fr p w w' :=
 ⟨h.os,h.tape,h.output,h.size,fun k hk hp _=>h.block k hk fun e=>hp (Option.some.inj e)⟩

def VBox (p:Nat) (vs:List PV) (w:World):Prop:=∃ a c,w.heap[p]? = some (.cells #[.slice a vs.length c] 134 (0,0))∧w.ownsRow (p+1) 136 5 (.slice a vs.length c) vs.length (pvCells vs)
theorem own_notbox {w:World} {p g:Nat} {v:Value} {n:Nat} {cs:List Value} {cur:Array Value} {T:TypeId} {fr:Nat×Nat} (h:w.ownsRow (p+1) 136 5 v n cs) (hg:v.ownBlock=some g) (hq:w.heap[p]? = some (.cells cur T fr)):g≠p:=by
 have:=(h.lt g hg).1
 omega
theorem VBox.fr_alloc {p:Nat} {vs:List PV} {w:World} (h:VBox p vs w) (o:Obj):VBox p vs (w.alloc o):=by
 obtain ⟨a,c,h1,h2⟩:=h
 have hlt:p<w.heap.size:=(Array.getElem?_eq_some_iff.1 h1).1
 exact ⟨a,c,((World.grownBy_alloc w o none).block p hlt (by simp)).trans h1,h2.kept (World.grownBy_alloc w o none) (by cases (Value.slice a vs.length c).ownBlock <;> simp)⟩
theorem VBox.below {p:Nat} {vs:List PV} {w w':World} (h:VBox p vs w) (hb:Below w.heap.size w w'):VBox p vs w':=by
 obtain ⟨a,c,h1,h2⟩:=h
 have hlt:p<w.heap.size:=(Array.getElem?_eq_some_iff.1 h1).1
 exact ⟨a,c,(hb.block p hlt).trans h1,h2.kept (K.grown_of_below hb) (by cases (Value.slice a vs.length c).ownBlock <;> simp)⟩

def BoxRet (p:Nat) (vs:List PV) (w:World) (e:Ending) (w':World):Prop:=e=.returned (.tuple #[])∧VBox p vs w'∧Fr p w w'
set_option maxRecDepth 100000 in
theorem encNum_any (p:Nat) (vs:List PV) (k:Int) (w:World) (h:VBox p vs w) (hl:vs.length≤1000) :
  Calls Tryz.prog 135 #[.int .i64 k,.pointer (some ⟨p,0,none⟩)] w (BoxRet p (vs++[.num k]) w):=by
 obtain ⟨a,c,h1,h2⟩:=h
 have hlt:p<w.heap.size:=(Array.getElem?_eq_some_iff.1 h1).1
 have c0:w.cell? ⟨p,0,none⟩=some (.slice a vs.length c):=by rw [cell_of_row w p 0 _ _ (0,0) h1];rfl
 obtain ⟨a',c',w1,hr,hown,hg⟩:=appV (.num k) rfl h2 (by omega) (by omega)
 have F1:=Fr.of_grown h2 hg
 have h1':w1.heap[p]? = some (.cells #[.slice a vs.length c] 134 (0,0)):=(hg.block p hlt (fun e=>by have:=(h2.lt p e.symm).1;omega)).trans h1
 have c1:w1.cell? ⟨p,0,none⟩=some (.slice a vs.length c):=by rw [cell_of_row w1 p 0 _ _ (0,0) h1'];rfl
 have f1:w1.frozen? ⟨p,0,none⟩=false:=by simp [World.frozen?,h1']
 obtain ⟨h5,h6⟩:=K.set1 (i:=0) h1' (.slice a' (vs.length+1) c')
 have hl2:(vs++[PV.num k]).length=vs.length+1:=by simp
 have HB:Hid (VBox p (vs++[.num k]) (w1.setCell ⟨p,0,none⟩ (.slice a' (vs.length+1) c'))):=hid ⟨a',c',by rw [hl2];exact h5,by rw [hl2];exact hown.kept h6 (.inr fun e=>own_notbox hown e h1' rfl)⟩
 have HF:Hid (Fr p w (w1.setCell ⟨p,0,none⟩ (.slice a' (vs.length+1) c'))):=hid (F1.trans (Fr.of_set h6))
 unfold PV.enc at hr
 clear h1 h2 hown hg F1 h1' h5 h6 hl2
 go_enter Tryz.func135,Tryz.ntmps135
 go_wp2_with (at_builtin;refine Lib.wpList_append_run _ rfl _ _ _ _ rfl _ _ rfl rfl _ _ (hr _) ?_)
 go_end0
 exact ⟨rfl,HB.out,HF.out⟩
set_option maxRecDepth 100000 in
theorem encKey_any (p:Nat) (vs:List PV) (k:Nat) (w:World) (h:VBox p vs w) (hl:vs.length≤1000) :
  Calls Tryz.prog 136 #[.float .f64 k,.pointer (some ⟨p,0,none⟩)] w (BoxRet p (vs++[.key k]) w):=by
 obtain ⟨a,c,h1,h2⟩:=h
 have hlt:p<w.heap.size:=(Array.getElem?_eq_some_iff.1 h1).1
 have c0:w.cell? ⟨p,0,none⟩=some (.slice a vs.length c):=by rw [cell_of_row w p 0 _ _ (0,0) h1];rfl
 obtain ⟨a',c',w1,hr,hown,hg⟩:=appV (.key k) rfl h2 (by omega) (by omega)
 have F1:=Fr.of_grown h2 hg
 have h1':w1.heap[p]? = some (.cells #[.slice a vs.length c] 134 (0,0)):=(hg.block p hlt (fun e=>by have:=(h2.lt p e.symm).1;omega)).trans h1
 have c1:w1.cell? ⟨p,0,none⟩=some (.slice a vs.length c):=by rw [cell_of_row w1 p 0 _ _ (0,0) h1'];rfl
 have f1:w1.frozen? ⟨p,0,none⟩=false:=by simp [World.frozen?,h1']
 obtain ⟨h5,h6⟩:=K.set1 (i:=0) h1' (.slice a' (vs.length+1) c')
 have hl2:(vs++[PV.key k]).length=vs.length+1:=by simp
 have HB:Hid (VBox p (vs++[.key k]) (w1.setCell ⟨p,0,none⟩ (.slice a' (vs.length+1) c'))):=hid ⟨a',c',by rw [hl2];exact h5,by rw [hl2];exact hown.kept h6 (.inr fun e=>own_notbox hown e h1' rfl)⟩
 have HF:Hid (Fr p w (w1.setCell ⟨p,0,none⟩ (.slice a' (vs.length+1) c'))):=hid (F1.trans (Fr.of_set h6))
 unfold PV.enc at hr
 clear h1 h2 hown hg F1 h1' h5 h6 hl2
 go_enter Tryz.func136,Tryz.ntmps136
 go_wp2_with (at_builtin;refine Lib.wpList_append_run _ rfl _ _ _ _ rfl _ _ rfl rfl _ _ (hr _) ?_)
 go_end0
 exact ⟨rfl,HB.out,HF.out⟩

def EncRet (x:SubV) (w:World) (e:Ending) (w':World):Prop :=
 ∃ a c,e=.returned (.tuple #[.slice a (encO x).length c,.int .i64 (K.SubV.check x)])∧w'.ownsRow w.heap.size 5 1 (.slice a (encO x).length c) (encO x).length (bCells (encO x))∧Below w.heap.size w w'
theorem VBox.vat {p:Nat} {vs:List PV} {w:World} {a:Option Addr} {n c:Nat} (h:w.ownsRow (p+1) 136 5 (.slice a n c) n (pvCells vs)) (hn:vs.length=n):VAt w a vs:=by
 rcases h.2 with ⟨h1,h2⟩|⟨g,cap,cur,h1,_⟩
 ·exact .inl (List.eq_nil_of_length_eq_zero (by omega))
 ·cases h1
  have hcl:=h.cells (g:=g) rfl
  refine .inr ⟨g,rfl,(h.lt g rfl).2,fun i t v u hv hu=>?_⟩
  have ht:t<5:=by rw [←PV.enc_len v];exact (List.getElem?_eq_some_iff.1 hu).1
  rw [←K.addr0]
  exact hcl _ u ((flat_get PV.enc_len hv ht).trans hu)
theorem encS_take {ss:List SpanV} {i:Nat} {s:SpanV} (h:ss[i]? = some s):encS (ss.take (i+1))=encS (ss.take i)++[.key s.lo]++[.key s.hi]:=by
 unfold encS
 rw [List.take_add_one,h,List.flatMap_append];simp
theorem encS_len (ss:List SpanV):(encS ss).length=2 * ss.length:=by
 induction ss with
 | nil=>rfl
 | cons s ss ih=>unfold encS at *;rw [List.flatMap_cons,List.length_append,ih];simp;omega
theorem map_take1 {α β:Type} {f:α→β} {l:List α} {i:Nat} {y:α} (h:l[i]? = some y):(l.take (i+1)).map f=(l.take i).map f++[f y]:=by
 rw [List.take_add_one,h,List.map_append];rfl
theorem box6 {W:World} {g:Nat} {T:TypeId} {v0 v1 v2 v3 v4 v5:Value} (h:W.heap[g]? = some (.cells #[v0,v1,v2,v3,v4,v5] T (0,0))) :
  W.cell? ⟨g,0,none⟩=some v0∧W.cell? ⟨g,1,none⟩=some v1∧W.cell? ⟨g,2,none⟩=some v2∧W.cell? ⟨g,3,none⟩=some v3∧W.cell? ⟨g,4,none⟩=some v4∧W.cell? ⟨g,5,none⟩=some v5 :=
 ⟨cell_of_row W g 0 _ _ (0,0) h,cell_of_row W g 1 _ _ (0,0) h,cell_of_row W g 2 _ _ (0,0) h,cell_of_row W g 3 _ _ (0,0) h,cell_of_row W g 4 _ _ (0,0) h,cell_of_row W g 5 _ _ (0,0) h⟩
theorem vals_ok (x:SubV) (w:World) (h:x.At w) (hn:K.SubV.nb x=true) (hm:K.SubV.mb x=false):∀ v∈valsOf x,v.ok:=by
 obtain ⟨l1,l2,l3⟩:=K.mb_false hm
 obtain ⟨n1,n2,n3,n4,n5,n6⟩:=K.nb_true hn
 have hr:∀ y∈x.rs,y<2 ^ 64:=fun y hy=>by
  obtain ⟨i,hi,rfl⟩:=List.getElem_of_mem hy
  have:=h.r.lt i hi
  rwa [List.getElem?_eq_getElem hi] at this
 have hw:∀ y∈x.ws,y<2 ^ 64:=fun y hy=>by
  obtain ⟨i,hi,rfl⟩:=List.getElem_of_mem hy
  have:=h.w.lt i hi
  rwa [List.getElem?_eq_getElem hi] at this
 have hs:∀ y∈x.ss,y.lo<2 ^ 64∧y.hi<2 ^ 64:=fun y hy=>by
  obtain ⟨i,hi,rfl⟩:=List.getElem_of_mem hy
  have:=h.s.lt i hi
  rwa [List.getElem?_eq_getElem hi] at this
 intro v hv
 unfold valsOf at hv
 simp only [List.mem_append,List.mem_map,List.mem_singleton] at hv
 have big:∀ n:Int,0≤n→n≤1099511627776→PV.ok (.num n):=fun n h1 h2=>⟨by omega,by omega⟩
 rcases hv with ((((⟨n,hn,rfl⟩|⟨y,hy,rfl⟩)|rfl)|hv)|rfl)|⟨y,hy,rfl⟩
 ·simp only [encNums,List.mem_cons,List.not_mem_nil,or_false] at hn
  rcases hn with rfl|rfl|rfl|rfl <;> exact big _ (by omega) (by omega)
 ·exact hr y hy
 ·exact big _ (by omega) (by omega)
 ·unfold encS at hv
  obtain ⟨s,hs1,hs2⟩:=List.mem_flatMap.1 hv
  simp only [List.mem_cons,List.not_mem_nil,or_false] at hs2
  rcases hs2 with rfl|rfl
  ·exact (hs s hs1).1
  ·exact (hs s hs1).2
 ·exact big _ (by omega) (by omega)
 ·exact hw y hy

theorem packB_plain:∀ {vs:List PV},(∀ v∈vs,v.ok)→(∀ v∈vs,v.plain=true)→(packB vs).length≤10 * vs.length:=by
 intro vs
 induction vs with
 | nil=>intro _ _;simp [packB]
 | cons v vs ih =>
  intro h1 h2
  have h3:=ih (fun u hu=>h1 u (List.mem_cons_of_mem _ hu)) fun u hu=>h2 u (List.mem_cons_of_mem _ hu)
  have h4:v.bytes.length≤10:=by
   have h5:=h1 v List.mem_cons_self
   have h6:=h2 v List.mem_cons_self
   cases v with
   | num n=>exact numB_len h5
   | key k=>unfold PV.bytes;rw [keyB_len];decide
   | raw a c l=>cases h6
   | flag b=>cases h6
  unfold packB at *
  rw [List.flatMap_cons,List.length_append,List.length_cons];omega
theorem vals_lies (x:SubV) (w:World):∀ v∈valsOf x,v.lies w:=fun v hv=>by
 have:=vals_plain x v hv
 cases v with
 | raw a c l=>cases this
 | _=>trivial
set_option maxHeartbeats 1000000 in
set_option maxRecDepth 100000 in
theorem encode_any (x:SubV) (w:World) (h:x.At w) :
  Calls Tryz.prog 59 #[.agg #[.int .i64 x.s0,.int .i64 x.s1,.int .i64 x.s2,.slice x.ra x.rs.length x.rc,.slice x.sa x.ss.length x.sc,.slice x.wa x.ws.length x.wc]] w (EncRet x w):=by
 have hmf:∀ (fn:Fn) (first cap:Array Value) (w:World),(Instr.makeFunc fn first cap).run Tryz.prog w=.ok (.func fn first cap) w:=fun _ _ _ _=>rfl
 have HX:=hid h
 clear h
 go_enter Tryz.func59,Tryz.ntmps59
 go_upto_region 1 with fail
 generalize hW0:World.alloc _ _=w0 at *
 have hA:Below w.heap.size w w0:=by rw [←hW0];exact below_auto
 have hz0:w.heap.size<w0.heap.size:=by rw [←hW0];simp
 have q0:w0.heap[w.heap.size]? = some (.cells #[.int .i64 x.s0,.int .i64 x.s1,.int .i64 x.s2,.slice x.ra x.rs.length x.rc,.slice x.sa x.ss.length x.sc,.slice x.wa x.ws.length x.wc] 41 (0,0)):=by rw [←hW0];simpa using heap_alloc_new w _
 clear hW0
 have xb:=fun W (hb:Below w0.heap.size w0 W)=>box6 ((hb.block _ hz0).trans q0)
 have XB:=hid xb
 obtain ⟨b0,b1,b2,b3,b4,b5⟩:=xb w0 (Below.refl _ _)
 clear xb q0
 go_wp2_with fail
 refine (K.check_any x w0 (HX.out.below hA)).mono ?_
 rintro e w1 ⟨rfl,hb1⟩
 have hbw1:Below w.heap.size w w1:=hA.trans (hb1.mono (by omega))
 by_cases hc:K.SubV.check x=0
 ·have hE:Hid (encO x=packB (valsOf x)):=hid (by unfold encO;rw [if_pos hc])
  obtain ⟨hnb,hmb,_⟩:=check0 hc
  obtain ⟨l1,l2,l3⟩:=K.mb_false hmb
  have hz1:=hb1.size
  have hzw:w.heap.size<w1.heap.size:=by omega
  have Hok:Hid (∀ v∈valsOf x,v.ok):=hid (vals_ok x w HX.out hnb hmb)
  generalize hcc:K.SubV.check x=cc at *
  subst hc
  clear b0 b1 b2 b3 b4 b5 hnb hmb
  obtain ⟨c0,c1,c2,c3,c4,c5⟩:=XB.out w1 hb1
  go_upto_region 8 with fail
  generalize hW7:World.alloc (World.alloc _ _) _=w7 at *
  have hz7:w1.heap.size+1<w7.heap.size:=by rw [←hW7];simp
  have hb7:Below w1.heap.size w1 w7:=by rw [←hW7];exact below_auto
  have hp7:w7.heap[w1.heap.size]? = some (.cells #[.slice none 0 0] 134 (0,0)):=by
   rw [←hW7]
   exact ((World.grownBy_alloc _ _ none).block _ (by simp) (by simp)).trans (heap_alloc_new w1 _)
  have hq7:w7.heap[w1.heap.size+1]? = some (.cells #[.int .i64 x.s0,.int .i64 x.s1,.int .i64 x.s2,.int .i64 x.rs.length] 2 (0,0)):=by
   rw [←hW7]
   have:=heap_alloc_new (w1.alloc (.cells #[.slice none 0 0] 134)) (.cells #[.int .i64 x.s0,.int .i64 x.s1,.int .i64 x.s2,.int .i64 x.rs.length] 2)
   simpa using this
  have V7:Hid (VBox w1.heap.size [] w7):=hid ⟨none,0,hp7,⟨rfl,.inl ⟨rfl,rfl⟩⟩⟩
  have HQ:=hid hq7
  clear hW7 hp7 hq7 c0 c1 c2 c3 c4 c5
  have BX:Hid (∀ W,Fr w1.heap.size w7 W→Below w0.heap.size w0 W):=hid fun W hF=>hb1.trans ((hb7.trans (hF.below (by omega))).mono hz1)
  have BW:Hid (∀ W,Fr w1.heap.size w7 W→Below w.heap.size w W):=hid fun W hF=>hA.trans ((BX.out W hF).mono (by omega))
  have F7:Hid (Fr w1.heap.size w7 w7):=hid (Fr.refl _ _)
  have hb7c:=hid hb7
  clear hb7 hb1 hbw1 hA
  go_loopw [34] (fun tq wr=>∃ i:Nat,tq=.int .i64 (i:Nat)∧i≤4∧Hid (VBox w1.heap.size (((encNums x).take i).map .num) wr)∧Hid (Fr w1.heap.size w7 wr)) (fun tq _=>4-(intOf tq).toNat)
  case atStart=>exact ⟨0,rfl,Nat.zero_le _,V7,F7⟩
  case round =>
  obtain ⟨i,rfl,hi,V,F⟩:=hrel
  by_cases hlt:i<4
  ·have hlt':(i:Int)<4:=by omega
   have hrow:=F.out.tag HQ.out (by omega) (by decide)
   obtain ⟨y,hy,k0⟩:∃ y,(encNums x)[i]? = some y∧wr.cell? ⟨w1.heap.size+1,i,none⟩=some (.int .i64 y):=by
    have:i=0∨i=1∨i=2∨i=3:=by omega
    rcases this with rfl|rfl|rfl|rfl
    ·exact ⟨_,rfl,by rw [cell_of_row wr _ _ _ _ (0,0) hrow];rfl⟩
    ·exact ⟨_,rfl,by rw [cell_of_row wr _ _ _ _ (0,0) hrow];rfl⟩
    ·exact ⟨_,rfl,by rw [cell_of_row wr _ _ _ _ (0,0) hrow];rfl⟩
    ·exact ⟨_,rfl,by rw [cell_of_row wr _ _ _ _ (0,0) hrow];rfl⟩
   have HY:=hid hy
   have hlen:(((encNums x).take i).map PV.num).length≤1000:=by simp [encNums];omega
   clear hrow hy
   go_wp2_with fail
   refine (encNum_any _ _ y wr V.out hlen).mono ?_
   rintro e w9 ⟨rfl,hV9,hF9⟩
   have HV9:=hid hV9;have HF9:=hid (F.out.trans hF9)
   clear hV9 hF9
   go_wp2_with fail
   go_roundw
   case rel=>exact ⟨i+1,by go_num,by omega,hid (by rw [map_take1 HY.out];exact HV9.out),HF9⟩
   case measure=>simp [intOf];omega
  obtain rfl:i=4:=by omega
  have V:Hid (VBox w1.heap.size ((encNums x).map PV.num) wr):=V
  have KX:=XB.out wr (BX.out wr F.out)
  obtain ⟨x0,x1,x2,x3,x4,x5⟩:=KX
  go_upto_region 13 with fail
  clear x0 x1 x2 x3 x4 x5
  go_loopw [45] (fun tq wr=>∃ i:Nat,tq=.int .i64 (i:Nat)∧i≤x.rs.length∧Hid (VBox w1.heap.size ((encNums x).map PV.num++(x.rs.take i).map .key) wr)∧Hid (Fr w1.heap.size w7 wr)) (fun tq _=>x.rs.length-(intOf tq).toNat)
  case atStart=>exact ⟨0,rfl,Nat.zero_le _,hid (by simpa using V.out),F⟩
  case round =>
  obtain ⟨i,rfl,hi,V,F⟩:=hrel
  by_cases hlt:i<x.rs.length
  ·have hlt':(i:Int)<(x.rs.length:Int):=by omega
   rcases (HX.out.r.below (BW.out wr F.out)).row with h0|⟨b,o,ha,hbl,hcl⟩
   ·rw [h0] at hlt;simp at hlt
   ·have k0:=hcl i hlt
    rw [ha]
    have hy:=fl_some hlt
    have HY:=hid hy
    generalize x.rs[i]?.getD 0=y at *
    have hlen:((encNums x).map PV.num++(x.rs.take i).map PV.key).length≤1000:=by simp [encNums];omega
    have HA:=hid ha
    clear hcl hy ha
    go_wp2_with fail
    refine (encKey_any _ _ y wr V.out hlen).mono ?_
    rintro e w9 ⟨rfl,hV9,hF9⟩
    have HV9:=hid hV9;have HF9:=hid (F.out.trans hF9)
    clear hV9 hF9
    go_wp2_with fail
    go_roundw
    case rel=>rw [←HA.out];exact ⟨_,_,_,_,_,_,_,_,_,⟨i+1,by go_num,by omega,hid (by rw [map_take1 HY.out,←List.append_assoc];exact HV9.out),HF9⟩,rfl⟩
    case measure=>simp [intOf];omega
  obtain rfl:i=x.rs.length:=by omega
  rw [List.take_length] at V
  have KX:=XB.out wr (BX.out wr F.out)
  obtain ⟨x0,x1,x2,x3,x4,x5⟩:=KX
  go_wp2_with fail
  refine (encNum_any _ _ (x.ss.length:Nat) wr V.out (by simp [encNums];omega)).mono ?_
  rintro e w8 ⟨rfl,hV8,hF8⟩
  have V:=hid hV8;have F:=hid (F.out.trans hF8)
  clear hV8 hF8 x0 x1 x2 x3 x4 x5
  obtain ⟨x0,x1,x2,x3,x4,x5⟩:=XB.out w8 (BX.out w8 F.out)
  go_upto_region 19 with fail
  clear x0 x1 x2 x3 x4 x5
  go_loopw [61] (fun tq wr=>∃ i:Nat,tq=.int .i64 (i:Nat)∧i≤x.ss.length∧Hid (VBox w1.heap.size (((encNums x).map PV.num++x.rs.map PV.key++[PV.num x.ss.length])++encS (x.ss.take i)) wr)∧Hid (Fr w1.heap.size w7 wr)) (fun tq _=>x.ss.length-(intOf tq).toNat)
  case atStart=>exact ⟨0,rfl,Nat.zero_le _,hid (by simpa [encS] using V.out),F⟩
  case round =>
  obtain ⟨i,rfl,hi,V,F⟩:=hrel
  by_cases hlt:i<x.ss.length
  ·have hlt':(i:Int)<(x.ss.length:Int):=by omega
   rcases (HX.out.s.below (BW.out wr F.out)).row with h0|⟨b,o,ha,hbl,hcl⟩
   ·rw [h0] at hlt;simp at hlt
   ·obtain ⟨k0,k1,k2,k3⟩:=hcl i hlt
    rw [ha]
    have HY:=hid (sp_some hlt)
    generalize x.ss[i]?.getD default=y at *
    have hlen:(((encNums x).map PV.num++x.rs.map PV.key++[PV.num x.ss.length])++encS (x.ss.take i)).length≤900:=by simp [encNums,encS_len];omega
    have hzr:=F.out.size
    clear hcl ha
    go_upto_region 21 with fail
    generalize hW8:World.alloc _ _=w8 at *
    have V8:Hid (VBox w1.heap.size (((encNums x).map PV.num++x.rs.map PV.key++[PV.num x.ss.length])++encS (x.ss.take i)) w8):=hid (by rw [←hW8];exact V.out.fr_alloc _)
    have F8:Hid (Fr w1.heap.size w7 w8):=hid (by rw [←hW8];exact F.out.alloc _)
    have q8:w8.heap[wr.heap.size]? = some (.cells #[.float .f64 y.lo,.float .f64 y.hi,.bool y.a,.bool y.b] 150 (0,0)):=by rw [←hW8];simpa using heap_alloc_new wr _
    have x0:w8.cell? ⟨wr.heap.size,0,none⟩=some (.float .f64 y.lo):=by rw [cell_of_row w8 _ _ _ _ (0,0) q8];rfl
    clear hW8 k0 k1 k2 k3
    go_wp2_with fail
    refine (encKey_any _ _ y.lo w8 V8.out (by omega)).mono ?_
    rintro e w9 ⟨rfl,hV9,hF9⟩
    have V9:=hid hV9;have F9:=hid (F8.out.trans hF9)
    have q9:=hF9.tag q8 (by omega) (by decide)
    have x1:w9.cell? ⟨wr.heap.size,1,none⟩=some (.float .f64 y.hi):=by rw [cell_of_row w9 _ _ _ _ (0,0) q9];rfl
    clear hV9 hF9 q8 q9 x0
    go_wp2_with fail
    refine (encKey_any _ _ y.hi w9 V9.out (by rw [List.length_append];exact Nat.le_trans (Nat.add_le_add_right hlen 1) (by decide))).mono ?_
    rintro e w10 ⟨rfl,hV10,hF10⟩
    have V10:=hid hV10;have F10:=hid (F9.out.trans hF10)
    clear hV10 hF10 x1
    go_wp2_with fail
    go_roundw
    case rel=>exact ⟨i+1,by go_num,by omega,hid (by rw [encS_take HY.out,←List.append_assoc,←List.append_assoc];exact V10.out),F10⟩
    case measure=>simp [intOf];omega
  obtain rfl:i=x.ss.length:=by omega
  rw [List.take_length] at V
  have KX:=XB.out wr (BX.out wr F.out)
  obtain ⟨x0,x1,x2,x3,x4,x5⟩:=KX
  go_wp2_with fail
  refine (encNum_any _ _ (x.ws.length:Nat) wr V.out (by simp [encNums,encS_len];omega)).mono ?_
  rintro e w8 ⟨rfl,hV8,hF8⟩
  have V:=hid hV8;have F:=hid (F.out.trans hF8)
  clear hV8 hF8 x0 x1 x2 x3 x4 x5
  obtain ⟨x0,x1,x2,x3,x4,x5⟩:=XB.out w8 (BX.out w8 F.out)
  go_upto_region 26 with fail
  clear x0 x1 x2 x3 x4 x5
  go_loopw [82] (fun tq wr=>∃ i:Nat,tq=.int .i64 (i:Nat)∧i≤x.ws.length∧Hid (VBox w1.heap.size ((encNums x).map PV.num++x.rs.map PV.key++[PV.num x.ss.length]++encS x.ss++[PV.num x.ws.length]++(x.ws.take i).map .key) wr)∧Hid (Fr w1.heap.size w7 wr)) (fun tq _=>x.ws.length-(intOf tq).toNat)
  case atStart=>exact ⟨0,rfl,Nat.zero_le _,hid (by simpa using V.out),F⟩
  case round =>
  obtain ⟨i,rfl,hi,V,F⟩:=hrel
  by_cases hlt:i<x.ws.length
  ·have hlt':(i:Int)<(x.ws.length:Int):=by omega
   rcases (HX.out.w.below (BW.out wr F.out)).row with h0|⟨b,o,ha,hbl,hcl⟩
   ·rw [h0] at hlt;simp at hlt
   ·have k0:=hcl i hlt
    rw [ha]
    have hy:=fl_some hlt
    have HY:=hid hy
    generalize x.ws[i]?.getD 0=y at *
    have hlen:((encNums x).map PV.num++x.rs.map PV.key++[PV.num x.ss.length]++encS x.ss++[PV.num x.ws.length]++(x.ws.take i).map PV.key).length≤1000:=by simp [encNums,encS_len];omega
    clear hcl hy ha
    go_wp2_with fail
    refine (encKey_any _ _ y wr V.out hlen).mono ?_
    rintro e w9 ⟨rfl,hV9,hF9⟩
    have HV9:=hid hV9;have HF9:=hid (F.out.trans hF9)
    clear hV9 hF9
    go_wp2_with fail
    go_roundw
    case rel=>exact ⟨i+1,by go_num,by omega,hid (by rw [map_take1 HY.out,←List.append_assoc];exact HV9.out),HF9⟩
    case measure=>simp [intOf];omega
  obtain rfl:i=x.ws.length:=by omega
  rw [List.take_length] at V
  have V:Hid (VBox w1.heap.size (valsOf x) wr):=V
  have hlenv:(valsOf x).length≤1000:=by unfold valsOf;simp [encNums,encS_len];omega
  obtain ⟨a9,c9,p9,o9⟩:=V.out
  have k9:wr.cell? ⟨w1.heap.size,0,none⟩=some (.slice a9 (valsOf x).length c9):=by rw [cell_of_row wr _ _ _ _ (0,0) p9];rfl
  have hbr:=BW.out wr F.out
  have hzr:=hbr.size
  go_wp2_with fail
  refine (put_any a9 c9 _ (valsOf x) wr rfl (VBox.vat o9 rfl) Hok.out (vals_lies x wr) (Nat.le_trans hlenv (by decide))).mono ?_
  rw [←hE.out]
  rintro e w10 ⟨a10,c10,rfl,hown10,hb10⟩
  have HR:Hid (EncRet x w (.returned (.tuple #[.slice a10 (encO x).length c10,.int .i64 0])) w10):=hid ⟨a10,c10,by rw [hcc],K.own_le hown10 hzr,hbr.trans (hb10.mono hzr)⟩
  go_wp2_with fail
  exact bodyPost_ret (v:=.tuple #[.slice a10 (encO x).length c10,.int .i64 0]) (by simp [results,Tryz.results59,go_sem]) rfl HR.out
 ·have hne:(K.SubV.check x != 0)=true:=by simpa using hc
  have he:encO x=[]:=by unfold encO;rw [if_neg hc]
  have HR:Hid (EncRet x w (.returned (.tuple #[.slice none 0 0,.int .i64 (K.SubV.check x)])) w1):=hid ⟨none,0,by rw [he];rfl,by rw [he];exact ⟨rfl,.inl ⟨rfl,rfl⟩⟩,hbw1⟩
  generalize K.SubV.check x=cc at *
  clear b0 b1 b2 b3 b4 b5 he
  go_wp2_with fail
  exact bodyPost_ret (v:=.tuple #[.slice none 0 0,.int .i64 cc]) (by simp [results,Tryz.results59,go_sem]) rfl HR.out

theorem sameB_len (a b:Option Addr) (n m ca cb:Nat) (w:World) (h:n≠m) :
  Calls Tryz.prog 20 #[.slice a n ca,.slice b m cb] w fun e w'=>e=.returned (.bool false)∧w=w':=by
 have h1:((n:Int) != (m:Int))=true:=by simp;omega
 go_enter Tryz.func20,Tryz.ntmps20
 go_wp2
 go_ret
 exact ⟨rfl,rfl⟩
theorem sameB_nil (a b:Option Addr) (ca cb:Nat) (w:World) :
  Calls Tryz.prog 20 #[.slice a 0 ca,.slice b 0 cb] w fun e w'=>e=.returned (.bool true)∧w=w':=by
 go_enter Tryz.func20,Tryz.ntmps20
 go_wp2
 go_loop [5] (fun i=>i=.int .i64 0) (fun _=>0)
 case atStart=>rfl
 case round =>
  subst hrel
  go_wp2
  go_ret
  exact ⟨rfl,rfl⟩
theorem sameB_row (b1 o1 b2 o2:Nat) (ca cb:Nat) (xs ys:List Nat) (w:World) (hl:xs.length=ys.length) (hm:xs.length≤maxLen)
  (h1:∀ i,i<xs.length→w.cell? ⟨b1,o1+i,none⟩=some (.int .u8 (xs[i]?.getD 0:Nat)))
  (h2:∀ i,i<xs.length→w.cell? ⟨b2,o2+i,none⟩=some (.int .u8 (ys[i]?.getD 0:Nat))) :
  Calls Tryz.prog 20 #[.slice (some ⟨b1,o1,none⟩) xs.length ca,.slice (some ⟨b2,o2,none⟩) xs.length cb] w fun e w'=>e=.returned (.bool (decide (xs=ys)))∧∃ q,w'=w.drewN q:=by
 have H1:=hid h1;have H2:=hid h2;have HL:=hid hl
 clear h1 h2 hl
 generalize hn:xs.length=n at *
 unfold maxLen at hm
 have HN:=hid hn
 clear hn
 go_enter Tryz.func20,Tryz.ntmps20
 go_wp2
 go_loopw [5] (fun i wr=>∃ k:Nat,k≤n∧i=.int .i64 k∧(∀ j,j<k→xs[j]?.getD 0=ys[j]?.getD 0)∧∃ q,wr=w.drewN q) (fun i _=>n-(intOf i).toNat)
 case atStart=>exact ⟨0,Nat.zero_le _,rfl,fun j hj=>absurd hj (Nat.not_lt_zero _),0,rfl⟩
 case round =>
  obtain ⟨k,hk,rfl,hr,q,rfl⟩:=hrel
  have HR:=hid hr
  clear hr
  by_cases hlt:k<n
  ·have c1:=H1.out k hlt
   have c2:=H2.out k hlt
   by_cases he:xs[k]?.getD 0=ys[k]?.getD 0
   ·have ht:(((xs[k]?.getD 0:Nat):Int) != ((ys[k]?.getD 0:Nat):Int))=false:=by rw [he];simp
    have HE:=hid he
    clear he
    have hb:(k:Int)<(n:Int):=by omega
    go_wp2
    go_quiet (fail)
    go_wp2
    go_roundw
    case rel=>exact ⟨k+1,by omega,by go_num,fun j hj=>by
      by_cases h:j<k
      ·exact HR.out j h
      ·obtain rfl:j=k:=by omega
       exact HE.out,_,rfl⟩
    case measure=>simp [intOf];omega
   ·have ht:(((xs[k]?.getD 0:Nat):Int) != ((ys[k]?.getD 0:Nat):Int))=true:=by simp;omega
    have HE:=hid he
    clear he
    have hb:(k:Int)<(n:Int):=by omega
    go_wp2
    go_quiet (fail)
    go_wp2
    go_ret
    refine ⟨ret_bool ?_,_,World.drewN_drewN ..⟩
    symm;rw [decide_eq_false_iff_not]
    intro h;exact HE.out (by rw [h])
  ·obtain rfl:k=n:=by omega
   go_wp2
   go_ret
   refine ⟨ret_bool ?_,_,rfl⟩
   symm;rw [decide_eq_true_eq]
   apply List.ext_getElem?
   intro j
   by_cases hj:j<k
   ·have:=HR.out j hj
    have e1:xs[j]? = some (xs[j]?.getD 0):=by
     rw [List.getElem?_eq_getElem (by have:=HN.out;omega)];rfl
    have e2:ys[j]? = some (ys[j]?.getD 0):=by
     rw [List.getElem?_eq_getElem (by have:=HN.out;have:=HL.out;omega)];rfl
    rw [e1,e2,this]
   ·rw [List.getElem?_eq_none (by have:=HN.out;omega),List.getElem?_eq_none (by have:=HN.out;have:=HL.out;omega)]
theorem sameB_any (a a':Option Addr) (c c' n n':Nat) (xs ys:List Nat) (v:Bool) (w:World) (hn:xs.length=n) (hn':ys.length=n') (hx:BAt w a xs) (hy:BAt w a' ys) (hv:decide (xs=ys)=v) :
  Calls Tryz.prog 20 #[.slice a n c,.slice a' n' c'] w (Ret (.bool v) w):=by
 by_cases hnn:n=n'
 ·subst hnn
  by_cases h0:n=0
  ·subst h0
   have e1:xs=[]:=List.eq_nil_of_length_eq_zero hn
   have e2:ys=[]:=List.eq_nil_of_length_eq_zero hn'
   rw [e1,e2] at hv
   have:v=true:=by rw [←hv];simp
   subst this
   exact (sameB_nil a a' c c' w).mono fun e w' ⟨h1,h2⟩=>⟨h1,by rw [←h2];exact Below.refl _ _⟩
  ·rcases hx.row with h1|⟨b,o,rfl,hb,hc⟩
   ·rw [h1] at hn;simp at hn;omega
   rcases hy.row with h1|⟨b',o',rfl,hb',hc'⟩
   ·rw [h1] at hn';simp at hn';omega
   have h:=sameB_row b o b' o' c c' xs ys w (by omega) hx.len hc (fun i hi=>hc' i (by omega))
   rw [hn,hv] at h
   exact h.mono fun e w' ⟨h1,q,h2⟩=>⟨h1,by rw [h2];exact below_drewN' (Below.refl _ _) _⟩
 ·have:v=false:=by
   rw [←hv,decide_eq_false_iff_not]
   intro h
   rw [h] at hn;omega
  subst this
  exact (sameB_len a a' n n' c c' w hnn).mono fun e w' ⟨h1,h2⟩=>⟨h1,by rw [←h2];exact Below.refl _ _⟩

end Go.Proofs.YtdeeoddacnealaaGreat.P