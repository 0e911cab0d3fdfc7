/- Several texts as one: PG PE PF PS PW. -/
import Derived.Test.YtdeeoddacnealaaGreatMPA
import Derived.Test.YtdeeoddacnealaaGreatMKE
set_option linter.unusedVariables false
namespace Go.Proofs.YtdeeoddacnealaaGreat.P
open Go.RowKit Fl

def encNums (x:SubV):List Int:=[x.s0,x.s1,x.s2,(x.rs.length:Int)]
def encS (ss:List SpanV):List PV:=ss.flatMap fun s=>[.key s.lo,.key s.hi]
def valsOf (x:SubV):List PV:=(encNums x).map .num++x.rs.map .key++[PV.num x.ss.length]++encS x.ss++[PV.num x.ws.length]++x.ws.map .key
def encO (x:SubV):List Nat:=if K.SubV.check x=0 then packB (valsOf x) else []
theorem check0 {x:SubV} (h:K.SubV.check x=0):K.SubV.nb x=true∧K.SubV.mb x=false∧K.ordF x.rs=true∧K.ordF x.ws=true∧K.ordS x.ss=true:=by
 unfold K.SubV.check at h
 generalize K.SubV.nb x=p at *
 generalize K.SubV.mb x=q at *
 generalize x.rs.any isNaN=a at *
 generalize x.ws.any isNaN=b at *
 generalize K.hasE x.ss=c at *
 generalize K.ordF x.rs=d at *
 generalize K.ordF x.ws=e at *
 generalize K.ordS x.ss=f at *
 revert h
 cases p <;> cases q <;> cases a <;> cases b <;> cases c <;> cases d <;> cases e <;> cases f <;> decide
theorem ordF_key {xs:List Nat} (h:K.ordF xs=true):∀ y∈xs,cbits y=y:=by
 unfold K.ordF at h
 rw [decide_eq_true_eq] at h
 intro y hy
 rw [h] at hy
 obtain ⟨c,_,rfl⟩:=List.mem_map.1 hy
 exact c.ok
theorem ordS_key {ss:List SpanV} (h:K.ordS ss=true):∀ s∈ss,cbits s.lo=s.lo∧cbits s.hi=s.hi∧s.a=false∧s.b=false:=by
 unfold K.ordS at h
 rw [decide_eq_true_eq] at h
 intro s hs
 rw [h] at hs
 obtain ⟨c,_,rfl⟩:=List.mem_map.1 hs
 exact ⟨cbits_key _,cbits_key _,rfl,rfl⟩
abbrev Dt:=Int×Int×Int×List Nat×List (Nat×Nat)×List Nat
def rowK (xs:List Nat):List Nat:=numB xs.length++xs.flatMap fun x=>keyB (codeN x)
def rowS (xs:List (Nat×Nat)):List Nat:=numB xs.length++xs.flatMap fun p=>keyB (codeN p.1)++keyB (codeN p.2)
def dB (t:Dt):List Nat:=numB t.1++(numB t.2.1++(numB t.2.2.1++(rowK t.2.2.2.1++(rowS t.2.2.2.2.1++rowK t.2.2.2.2.2))))
def getSp:=both getKey getKey
def parse:List Nat→Option (Dt×List Nat):=both getNum (both getNum (both getNum (both (getRow 16 getKey) (both (getRow 8 getSp) (getRow 16 getKey)))))
def DtD (t:Dt):Prop:=NumD t.1∧NumD t.2.1∧NumD t.2.2.1∧(t.2.2.2.1.length≤16∧∀ x∈t.2.2.2.1,KeyD x)∧(t.2.2.2.2.1.length≤8∧∀ p∈t.2.2.2.2.1,KeyD p.1∧KeyD p.2)∧(t.2.2.2.2.2.length≤16∧∀ x∈t.2.2.2.2.2,KeyD x)
theorem parse_good:Good parse dB DtD :=
 both_good num_good (both_good num_good (both_good num_good (both_good (row_good 16 (by decide) key_good) (both_good (row_good 8 (by decide) (both_good key_good key_good)) (row_good 16 (by decide) key_good)))))
def spOf (p:Nat×Nat):SpanV:=⟨p.1,p.2,false,false⟩
def ofD (t:Dt):SubV:=⟨t.1,t.2.1,t.2.2.1,none,0,t.2.2.2.1,none,0,t.2.2.2.2.1.map spOf,none,0,t.2.2.2.2.2⟩
def toD (x:SubV):Dt:=(x.s0,x.s1,x.s2,x.rs,x.ss.map (fun s=>(s.lo,s.hi)),x.ws)
theorem toD_ofD (t:Dt):toD (ofD t)=t:=by
 obtain ⟨a,b,c,d,e,f⟩:=t
 unfold toD ofD
 simp only [List.map_map,Prod.mk.injEq,true_and,and_true]
 have:(fun s:SpanV=>(s.lo,s.hi)) ∘ spOf=id:=rfl
 rw [this,List.map_id]
structure SameD (x y:SubV):Prop where
 s0:x.s0=y.s0
 s1:x.s1=y.s1
 s2:x.s2=y.s2
 rs:x.rs=y.rs
 ss:x.ss=y.ss
 ws:x.ws=y.ws
theorem SameD.check {x y:SubV} (h:SameD x y):K.SubV.check x=K.SubV.check y:=by
 obtain ⟨h1,h2,h3,h4,h5,h6⟩:=h
 unfold K.SubV.check K.SubV.nb K.SubV.mb
 rw [h1,h2,h3,h4,h5,h6]
theorem sameD_of {x y:SubV} (h:toD x=toD y) (hx:∀ s∈x.ss,s.a=false∧s.b=false) (hy:∀ s∈y.ss,s.a=false∧s.b=false):SameD x y:=by
 unfold toD at h
 simp only [Prod.mk.injEq] at h
 obtain ⟨h1,h2,h3,h4,h5,h6⟩:=h
 refine ⟨h1,h2,h3,h4,?_,h6⟩
 have back:∀ l:List SpanV,(∀ s∈l,s.a=false∧s.b=false)→(l.map fun s=>(s.lo,s.hi)).map spOf=l:=by
  intro l hl
  rw [List.map_map]
  conv=>rhs;rw [←List.map_id l]
  refine List.map_congr_left fun s hs=>?_
  obtain ⟨a,b,c,d⟩:=s
  obtain ⟨e1,e2⟩:=hl _ hs
  simp only at e1 e2
  subst e1;subst e2;rfl
 rw [←back x.ss hx,h5,back y.ss hy]
theorem right_D {x:SubV} (h:K.SubV.check x=0):DtD (toD x)∧(∀ s∈x.ss,s.a=false∧s.b=false):=by
 obtain ⟨h1,h2,h3,h4,h5⟩:=check0 h
 obtain ⟨n1,n2,n3,n4,n5,n6⟩:=K.nb_true h1
 obtain ⟨l1,l2,l3⟩:=K.mb_false h2
 refine ⟨⟨⟨?_,?_⟩,⟨?_,?_⟩,⟨?_,?_⟩,⟨?_,ordF_key h3⟩,⟨?_,?_⟩,⟨?_,ordF_key h4⟩⟩,fun s hs=>⟨(ordS_key h5 s hs).2.2.1,(ordS_key h5 s hs).2.2.2⟩⟩
 any_goals (simp only [toD,List.length_map];omega)
 ·intro p hp
  obtain ⟨s,hs,rfl⟩:=List.mem_map.1 hp
  exact ⟨(ordS_key h5 s hs).1,(ordS_key h5 s hs).2.1⟩
theorem packB_keys (l:List Nat):packB (l.map .key)=l.flatMap fun x=>keyB (codeN x):=by
 induction l with
 | nil=>rfl
 | cons x l ih=>unfold packB at *;rw [List.map_cons,List.flatMap_cons,List.flatMap_cons,ih];rfl
theorem packB_spans (l:List SpanV):packB (encS l)=(l.map fun s=>(s.lo,s.hi)).flatMap fun p=>keyB (codeN p.1)++keyB (codeN p.2):=by
 induction l with
 | nil=>rfl
 | cons x l ih=>unfold encS packB at *;rw [List.flatMap_cons,List.flatMap_append,ih,List.map_cons,List.flatMap_cons];simp [PV.bytes]
theorem packB_append (a b:List PV):packB (a++b)=packB a++packB b:=List.flatMap_append
theorem packB_dB (x:SubV):packB (valsOf x)=dB (toD x):=by
 unfold valsOf dB toD rowK rowS
 rw [packB_append,packB_append,packB_append,packB_append,packB_append,packB_keys,packB_keys,packB_spans]
 simp [packB,PV.bytes,encNums]
def dec (b:List Nat):Option Dt:=match parse b with
 | none=>none
 | some (t,r)=>if r=[]∧K.SubV.check (ofD t)=0 then some t else none
theorem dec_some {b:List Nat} {t:Dt} (h:dec b=some t):parse b=some (t,[])∧K.SubV.check (ofD t)=0:=by
 unfold dec at h
 cases hp:parse b with
 | none=>rw [hp] at h;cases h
 | some q =>
  obtain ⟨t',r⟩:=q
  rw [hp] at h
  simp only at h
  by_cases hc:r=[]∧K.SubV.check (ofD t')=0
  ·rw [if_pos hc] at h
   cases h
   rw [hc.1];exact ⟨rfl,hc.2⟩
  ·rw [if_neg hc] at h;cases h
theorem enc_dec {x:SubV} (h:K.SubV.check x=0):dec (encO x)=some (toD x)∧SameD (ofD (toD x)) x:=by
 obtain ⟨h1,h2⟩:=right_D h
 have hs:SameD (ofD (toD x)) x:=sameD_of (toD_ofD _) (fun s hs=>by
  obtain ⟨p,_,rfl⟩:=List.mem_map.1 hs;exact ⟨rfl,rfl⟩) h2
 refine ⟨?_,hs⟩
 have:=parse_good.fwd (toD x) [] h1
 rw [List.append_nil] at this
 unfold dec encO
 rw [if_pos h,packB_dB,this]
 exact if_pos ⟨rfl,hs.check.trans h⟩

theorem valInfo:(Tryz.prog.info? 136).map (fun i=>(i.zero,i.size,i.bytes))=some (some (.agg #[.int .i64 0,.int .i64 0,.float .f64 0,.slice none 0 0,.bool false]),5,56):=by kernel_rfl
theorem own_sliceV {w:World} {B n:Nat} {v:Value} {cs:List Value} (h:w.ownsRow B 136 5 v n cs):∃ va vc,v=.slice va n vc:=by
 rcases h.2 with ⟨rfl,h0⟩|⟨g,cap,cur,rfl,_⟩
 ·exact ⟨none,0,by rw [h0]⟩
 ·exact ⟨_,_,rfl⟩
theorem appV {w:World} {base:Nat} {a:Option Addr} {c n:Nat} {vs:List PV} (v:PV) (hn:vs.length=n) (hown:w.ownsRow base 136 5 (.slice a n c) n (pvCells vs)) (hbase:base≤w.heap.size) (hl:n≤1000) :
  ∃ a' c' w',(∀ ty,(Builtin.append_ #[134,134] ty #[.slice a n c,.slice (some ⟨w.heap.size,0,none⟩) 1 1]).run Tryz.prog (w.alloc (.cells v.enc.toArray 136))=.ok (.slice a' (n+1) c') w') ∧
   w'.ownsRow base 136 5 (.slice a' (n+1) c') (n+1) (pvCells (vs++[v]))∧w.grownBy w' (Value.slice a n c).ownBlock:=by
 obtain ⟨i0,hi0,hz0,hzs,hzb⟩:=info_parts valInfo
 have hown1:=hown.kept (World.grownBy_alloc w (.cells v.enc.toArray 136) none) (by cases (Value.slice a n c).ownBlock <;> simp)
 obtain ⟨v',w',hr,h2,h3⟩:=run_append_own2 (P:=Tryz.prog) (w.alloc (.cells v.enc.toArray 136)) base 134 136 i0 _ 5 56 Tryz.underlying134 hi0 hz0 hzs hzb rfl (by omega) _ _ _ hown1 ⟨w.heap.size,0,none⟩ 1 1 v.enc (by rw [PV.enc_len])
  (fun j u hj=>by
   have hrow:(w.alloc (.cells v.enc.toArray 136)).heap[w.heap.size]? = some (.cells v.enc.toArray 136 (0,0)):=heap_alloc_new w _
   rw [K.addr0,cell_of_row _ _ j _ _ (0,0) hrow]
   rw [←hj];simp) (PV.enc_one v) (by omega) (by unfold maxLen;omega) (by omega) (by simp;omega)
 have hc:pvCells vs++v.enc=pvCells (vs++[v]):=by simp [pvCells]
 rw [hc] at h2
 obtain ⟨a',c',rfl⟩:=own_sliceV h2
 exact ⟨a',c',w',hr,h2,(World.grownBy_alloc w _ _).trans h3.1⟩

structure Fr (p:Nat) (w w':World):Prop where
 os:w'.os=w.os
 tape:w'.tape=w.tape
 output:w'.output=w.output
 size:w.heap.size≤w'.heap.size
 block:∀ k,k<w.heap.size→k≠p→(k<p∨∀ cur fr,w.heap[k]?≠some (.cells cur 136 fr))→w'.heap[k]? = w.heap[k]?
def VBox (p:Nat) (vs:List PV) (w:World):Prop:=∃ a c,w.heap[p]? = some (.cells #[.slice a vs.length c] 134 (0,0))∧w.ownsRow (p+1) 136 5 (.slice a vs.length c) vs.length (pvCells vs)
theorem own_notbox {w:World} {p g:Nat} {v:Value} {n:Nat} {cs:List Value} {cur:Array Value} {T:TypeId} {fr:Nat×Nat} (h:w.ownsRow (p+1) 136 5 v n cs) (hg:v.ownBlock=some g) (hq:w.heap[p]? = some (.cells cur T fr)):g≠p:=by
 have:=(h.lt g hg).1
 omega
def BoxRet (p:Nat) (vs:List PV) (w:World) (e:Ending) (w':World):Prop:=e=.returned (.tuple #[])∧VBox p vs w'∧Fr p w w'

theorem box6 {W:World} {g:Nat} {T:TypeId} {v0 v1 v2 v3 v4 v5:Value} (h:W.heap[g]? = some (.cells #[v0,v1,v2,v3,v4,v5] T (0,0))) :
  W.cell? ⟨g,0,none⟩=some v0∧W.cell? ⟨g,1,none⟩=some v1∧W.cell? ⟨g,2,none⟩=some v2∧W.cell? ⟨g,3,none⟩=some v3∧W.cell? ⟨g,4,none⟩=some v4∧W.cell? ⟨g,5,none⟩=some v5 :=
 ⟨cell_of_row W g 0 _ _ (0,0) h,cell_of_row W g 1 _ _ (0,0) h,cell_of_row W g 2 _ _ (0,0) h,cell_of_row W g 3 _ _ (0,0) h,cell_of_row W g 4 _ _ (0,0) h,cell_of_row W g 5 _ _ (0,0) h⟩

end Go.Proofs.YtdeeoddacnealaaGreat.P