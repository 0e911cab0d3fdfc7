/- Several texts as one: NA NB NR NRN NT NU. -/
import Derived.Test.YtdeeoddacnealaaGreatQ0
import Derived.Test.YtdeeoddacnealaaGreatNP
import Derived.Test.YtdeeoddacnealaaGreatMV
import Derived.OneCell
import Derived.Test.YtdeeoddacnealaaGreatMFL
import Derived.Test.YtdeeoddacnealaaGreatMR
import Derived.Test.YtdeeoddacnealaaGreatMB
import Derived.Deep.CutBlock
import Derived.Test.YtdeeoddacnealaaGreatMNL
import Derived.Test.YtdeeoddacnealaaGreatMC0
set_option linter.unusedVariables false
set_option linter.unusedSimpArgs false
namespace Go.Proofs.YtdeeoddacnealaaGreat.N
open Go.RowKit Fl

def enc (k:RK):List Value:=[.float .f64 k.lo.bits,.float .f64 k.hi.bits,.bool false,.bool false]
theorem enc_len (k:RK):(enc k).length=4:=rfl
theorem enc_one (k:RK):∀ u∈enc k,u.oneCell'=true:=by intro u hu;simp [enc] at hu;rcases hu with rfl|rfl|rfl <;> rfl
def sCells (l:List RK):List Value:=l.flatMap enc
theorem sCells_len (l:List RK):(sCells l).length=l.length * 4:=flat_len enc_len l
theorem spanInfo:(Tryz.prog.info? 150).map (fun i=>(i.zero,i.size,i.bytes))=some (some (.agg #[.float .f64 0,.float .f64 0,.bool false,.bool false]),4,24):=by kernel_rfl
theorem cell_row {w:World} {g:Nat} {cur:Array Value} {t:TypeId} (h:w.heap[g]? = some (.cells cur t (0,0))) (j:Nat):w.cell? ⟨g,j,none⟩=cur[j]?:=cell_of_row w g j cur t (0,0) h
theorem addr0 (g j:Nat):(⟨g,0,none⟩:Addr).add j=⟨g,j,none⟩:=by rw [Addr.add_lit,Nat.zero_add]
theorem grown_of_below {w w':World} (h:Below w.heap.size w w'):w.grownBy w' none:=⟨h.os,h.tape,h.output,h.size,fun k hk _=>h.block k hk⟩
theorem own_le {w:World} {base base' size n:Nat} {e:TypeId} {v:Value} {xs:List Value} (h:w.ownsRow base e size v n xs) (hb:base'≤base):w.ownsRow base' e size v n xs :=
 ⟨h.1,h.2.imp id fun ⟨g,cap,cur,h1,h2,h3⟩=>⟨g,cap,cur,h1,Nat.le_trans hb h2,h3⟩⟩
theorem own_slice {w:World} {B:Nat} {v:Value} {l:List RK} (h:w.ownsRow B 150 4 v l.length (sCells l)):∃ va vc,v=.slice va l.length vc:=by
 rcases h.2 with ⟨rfl,h0⟩|⟨g,cap,cur,rfl,_⟩
 ·have:=sCells_len l
  rw [h0] at this;simp at this
  exact ⟨none,0,by rw [show l.length=0 by omega]⟩
 ·exact ⟨_,_,rfl⟩
theorem app1 {W0 w:World} {base:Nat} {a:Option Addr} {c:Nat} {l:List RK} (x:RK) (hb:Below base W0 w) (hown:w.ownsRow base 150 4 (.slice a l.length c) l.length (sCells l)) (hbase:base≤w.heap.size) (hl:l.length≤5864062014804) :
  ∃ a' c' w',(∀ ty,(Builtin.append_ #[39,39] ty #[.slice a l.length c,.slice (some ⟨w.heap.size,0,none⟩) 1 1]).run Tryz.prog (w.alloc (.cells #[.float .f64 x.lo.bits,.float .f64 x.hi.bits,.bool false,.bool false] 150))=.ok (.slice a' (l.length+1) c') w') ∧
   w'.ownsRow base 150 4 (.slice a' (l.length+1) c') (l.length+1) (sCells (l++[x]))∧Below base W0 w':=by
 obtain ⟨i0,hi0,hz0,hzs,hzb⟩:=info_parts spanInfo
 have hb1:Below w.heap.size w (w.alloc (.cells #[.float .f64 x.lo.bits,.float .f64 x.hi.bits,.bool false,.bool false] 150)):=by exact below_auto
 have hown1:=hown.kept (grown_of_below hb1) (by cases (Value.slice a l.length c).ownBlock <;> simp)
 obtain ⟨v',w',hr,h2,h3⟩:=run_append_own2 (P:=Tryz.prog) (w.alloc (.cells #[.float .f64 x.lo.bits,.float .f64 x.hi.bits,.bool false,.bool false] 150)) base 39 150 i0 _ 4 24 Tryz.underlying39 hi0 hz0 hzs hzb rfl (by omega) _ _ _ hown1 ⟨w.heap.size,0,none⟩ 1 1 (enc x) rfl
  (fun j u hj=>by
   have hrow:(w.alloc (.cells #[.float .f64 x.lo.bits,.float .f64 x.hi.bits,.bool false,.bool false] 150)).heap[w.heap.size]? = some (.cells #[.float .f64 x.lo.bits,.float .f64 x.hi.bits,.bool false,.bool false] 150 (0,0)):=heap_alloc_new w _
   rw [addr0,cell_row hrow]
   rw [←hj];simp [enc]) (enc_one x) (by omega) (by unfold maxLen;omega) (by omega) (by simp;omega)
 have hc:sCells l++enc x=sCells (l++[x]):=by simp [sCells]
 rw [hc] at h2
 have hlen:(l++[x]).length=l.length+1:=by simp
 rw [←hlen] at h2
 obtain ⟨a',c',rfl⟩:=own_slice h2
 rw [hlen] at h2 hr
 exact ⟨a',c',w',hr,h2,((hb.trans (hb1.mono hbase)).grown h3.1 (by simp;omega) (fun k hk=>(hown.lt k hk).1))⟩
theorem own_set4 {w:World} {base g cv p:Nat} {l:List RK} {y:RK} (z:RK) (hp:l.length=p) (h:w.ownsRow base 150 4 (.slice (some ⟨g,0,none⟩) (p+1) cv) (p+1) (sCells (l++[y]))) :
  ((((w.setCell ⟨g,p * 4,none⟩ (.float .f64 z.lo.bits)).setCell ⟨g,p * 4+1,none⟩ (.float .f64 z.hi.bits)).setCell ⟨g,p * 4+2,none⟩ (.bool false)).setCell ⟨g,p * 4+3,none⟩ (.bool false)).ownsRow base 150 4 (.slice (some ⟨g,0,none⟩) (p+1) cv) (p+1) (sCells (l++[z])) ∧
  w.grownBy ((((w.setCell ⟨g,p * 4,none⟩ (.float .f64 z.lo.bits)).setCell ⟨g,p * 4+1,none⟩ (.float .f64 z.hi.bits)).setCell ⟨g,p * 4+2,none⟩ (.bool false)).setCell ⟨g,p * 4+3,none⟩ (.bool false)) (some g):=by
 rcases h.2 with ⟨h1,_⟩|⟨g',cap,cur,h1,hbase,hb,hnc,hcm,hcs,htake⟩
 ·cases h1
 ·cases h1
  rw [setCell_eq_setRow w g (p * 4) _ _ _ _ hb]
  have hb1:=setRow_heap w g cur (cur.setIfInBounds (p * 4) (.float .f64 z.lo.bits)) 150 (0,0) hb
  rw [setCell_eq_setRow _ g (p * 4+1) _ _ _ _ hb1]
  have hb2:=setRow_heap _ g _ ((cur.setIfInBounds (p * 4) (.float .f64 z.lo.bits)).setIfInBounds (p * 4+1) (.float .f64 z.hi.bits)) 150 (0,0) hb1
  rw [setCell_eq_setRow _ g (p * 4+2) _ _ _ _ hb2]
  have hb3:=setRow_heap _ g _ (((cur.setIfInBounds (p * 4) (.float .f64 z.lo.bits)).setIfInBounds (p * 4+1) (.float .f64 z.hi.bits)).setIfInBounds (p * 4+2) (.bool false)) 150 (0,0) hb2
  rw [setCell_eq_setRow _ g (p * 4+3) _ _ _ _ hb3]
  have hb4:=setRow_heap _ g _ ((((cur.setIfInBounds (p * 4) (.float .f64 z.lo.bits)).setIfInBounds (p * 4+1) (.float .f64 z.hi.bits)).setIfInBounds (p * 4+2) (.bool false)).setIfInBounds (p * 4+3) (.bool false)) 150 (0,0) hb3
  refine ⟨⟨?_,.inr ⟨g,cv,_,rfl,hbase,hb4,hnc,hcm,by simpa using hcs,?_⟩⟩,((grownBy_setRow w g _).trans (grownBy_setRow _ g _)).trans ((grownBy_setRow _ g _).trans (grownBy_setRow _ g _))⟩
  ·rw [sCells_len,List.length_append,hp];rfl
  ·have hl0:(sCells l).length=p * 4:=by rw [sCells_len,hp]
   have hl1:(sCells (l++[y])).length=(p+1) * 4:=by rw [sCells_len,List.length_append,hp];rfl
   have e0:sCells (l++[y])=sCells l++enc y:=by simp [sCells]
   have e1:sCells (l++[z])=sCells l++enc z:=by simp [sCells]
   rw [e1]
   rw [e0] at htake
   have hsz:(p+1) * 4≤cur.size:=by rw [hcs];exact Nat.mul_le_mul_right _ hnc
   apply List.ext_getElem?
   intro j
   by_cases hj:j<(p+1) * 4
   ·have h3:(cur.toList.take ((p+1) * 4))[j]? = (sCells l++enc y)[j]?:=by rw [htake]
    rw [List.getElem?_take_of_lt hj] at h3
    rw [List.getElem?_take_of_lt hj]
    simp only [Array.toList_setIfInBounds,List.getElem?_set,List.length_set,Array.length_toList]
    by_cases hj2:j<p * 4
    ·rw [List.getElem?_append_left (by omega)] at h3 ⊢
     rw [if_neg (by omega),if_neg (by omega),if_neg (by omega),if_neg (by omega)]
     exact h3
    ·rw [List.getElem?_append_right (by omega),hl0]
     have hc:j=p * 4∨j=p * 4+1∨j=p * 4+2∨j=p * 4+3:=by omega
     rcases hc with rfl|rfl|rfl|rfl
     ·rw [if_neg (by omega),if_neg (by omega),if_neg (by omega),if_pos rfl,if_pos (by omega)];simp [enc]
     ·rw [if_neg (by omega),if_neg (by omega),if_pos rfl,if_pos (by omega),show p * 4+1-p * 4=1 by omega];simp [enc]
     ·rw [if_neg (by omega),if_pos rfl,if_pos (by omega),show p * 4+2-p * 4=2 by omega];simp [enc]
     ·rw [if_pos rfl,if_pos (by omega),show p * 4+3-p * 4=3 by omega];simp [enc]
   ·have hlz:(enc z).length=4:=rfl
    rw [List.getElem?_take_eq_none (by omega),List.getElem?_eq_none (by rw [List.length_append,hl0,hlz];omega)]

def fO (s:SpanV):List RK:=match s.rg with
 | none=>[]
 | some (l,h)=>if le:l.v≤h.v then [⟨l,h,le⟩] else []
def forms (ss:List SpanV):List RK:=ss.flatMap fO
theorem fO_none {s:SpanV} (h:canonS s.lo s.hi s.a s.b=none):fO s=[]:=by
 have h':s.rg=none:=h
 unfold fO;rw [h']
theorem fO_some {s:SpanV} {l h:Key} (e:canonS s.lo s.hi s.a s.b=some (l,h)):fO s=[⟨l,h,canonS_le e⟩]:=by
 have h':s.rg=some (l,h):=e
 unfold fO;rw [h']
 exact dif_pos (canonS_le e)
theorem forms_snoc {ss:List SpanV} {i:Nat} {s:SpanV} (h:ss[i]? = some s):forms (ss.take (i+1))=forms (ss.take i)++fO s:=by
 unfold forms
 rw [List.take_add_one,h,List.flatMap_append]
 simp
theorem fO_le (s:SpanV):(fO s).length≤1:=by
 unfold fO
 split
 ·exact Nat.zero_le _
 ·split <;> simp
theorem forms_le:∀ ss:List SpanV,(forms ss).length≤ss.length
 | []=>Nat.le_refl _
 | s :: ss=>by
  have h1:=forms_le ss
  have h2:=fO_le s
  show (fO s++forms ss).length≤ss.length+1
  rw [List.length_append];omega
theorem forms_take_le (ss:List SpanV) (i:Nat):(forms (ss.take i)).length≤ss.length:=Nat.le_trans (forms_le _) (by rw [List.length_take];omega)
theorem joinL_len:∀ (l:List RK) (s:RK),(joinL l s).length≤l.length+1
 | [],_=>Nat.le_refl _
 | [x],s=>by unfold joinL;split <;> simp
 | x :: y :: t,s=>by
  have:=joinL_len (y :: t) s
  show (joinL (y :: t) s).length+1≤_
  simp at this ⊢;omega
theorem joinAll_take {l:List RK} {i:Nat} {x:RK} (h:l[i]? = some x):joinAll [] (l.take (i+1))=joinL (joinAll [] (l.take i)) x:=by
 unfold joinAll
 rw [List.take_add_one,h,List.foldl_append];rfl
theorem joinAll_lo (z:Int):∀ (l acc:List RK),gapped acc→risesLo l→(∀ x∈acc,∀ y∈l,x.lo.v≤y.lo.v)→(∀ y∈l,y.lo.v≤z)→(∀ x∈acc,x.lo.v≤z)→∀ x∈joinAll acc l,x.lo.v≤z
 | [],_,_,_,_,_,h=>h
 | s :: l,acc,hg,hr,hle,hz,ha=>by
  obtain ⟨r1,r2⟩:=List.pairwise_cons.1 hr
  obtain ⟨a,_,c,_⟩:=joinL_spec acc s hg fun x hx=>hle x hx s (by simp)
  exact joinAll_lo z l (joinL acc s) a r2 (fun x hx y hy=>Int.le_trans (c x hx) (r1 y hy)) (fun y hy=>hz y (by simp [hy])) (fun x hx=>Int.le_trans (c x hx) (hz s (by simp)))
theorem joinAll_le {l:List RK} (hr:risesLo l) {j:Nat} {x:RK} (hx:l[j]? = some x):∀ y∈joinAll [] (l.take j),y.lo.v≤x.lo.v:=by
 refine joinAll_lo x.lo.v (l.take j) [] List.Pairwise.nil (hr.sublist (List.take_sublist _ _)) (fun _ h=>by cases h) (fun y hy=>?_) (fun _ h=>by cases h)
 obtain ⟨i,hi,rfl⟩:=List.mem_take_iff_getElem.1 hy
 obtain ⟨hj,rfl⟩:=List.getElem?_eq_some_iff.1 hx
 exact List.pairwise_iff_getElem.1 hr i j (by omega) hj (by omega)
theorem joinL_snoc (p:List RK) (y s:RK):joinL (p++[y]) s=p++joinL [y] s:=by
 induction p with
 | nil=>rfl
 | cons x t ih =>
  cases t with
  | nil=>rfl
  | cons z t =>
   show x :: joinL (z :: (t++[y])) s=x :: (z :: t++joinL [y] s)
   rw [←ih];rfl
theorem next_lt (h l:Key):flt (knext h).bits l.bits=decide (h.v+1<l.v):=by
 rw [flt_kk]
 by_cases e:h.v=(inf:Int)
 ·have:=l.hi
  have e2:(knext h).v=h.v:=by simp [knext,e]
  rw [e2,decide_eq_decide];omega
 ·rw [knext_v e]
theorem join_last (y s:RK) (hlo:y.lo.v≤s.lo.v) (b:Bool) (hb:decide (y.hi.v+1<s.lo.v)=b) (w:World) :
  (b=true→joinL [y] s=[y,s]∧Calls Tryz.prog 186 #[.agg #[.float .f64 y.lo.bits,.float .f64 y.hi.bits,.bool false,.bool false],.agg #[.float .f64 s.lo.bits,.float .f64 s.hi.bits,.bool false,.bool false]] w (Ret (.tuple #[.agg #[.float .f64 0,.float .f64 0,.bool true,.bool true],.bool false]) w)) ∧
  (b=false→∃ z:RK,joinL [y] s=[z]∧∀ w:World,Calls Tryz.prog 186 #[.agg #[.float .f64 y.lo.bits,.float .f64 y.hi.bits,.bool false,.bool false],.agg #[.float .f64 s.lo.bits,.float .f64 s.hi.bits,.bool false,.bool false]] w (Ret (.tuple #[.agg #[.float .f64 z.lo.bits,.float .f64 z.hi.bits,.bool false,.bool false],.bool true]) w)):=by
 have hy:=y.le
 have hs:=s.le
 constructor
 ·rintro rfl
  have h1:y.hi.v+1<s.lo.v:=by simpa using hb
  refine ⟨by unfold joinL;rw [if_pos h1],?_⟩
  exact join_ssA _ _ _ _ _ _ _ _ w (Key.bits_lt _) (Key.bits_lt _) (Key.bits_lt _) (Key.bits_lt _) y.lo y.hi (hid (canonS_canon _ _ hy)) s.lo s.hi (hid (canonS_canon _ _ hs)) (by rw [next_lt];exact hb)
 ·rintro rfl
  have h1:¬y.hi.v+1<s.lo.v:=by simpa using hb
  refine ⟨⟨kLeast y.lo s.lo,kMost y.hi s.hi,by rw [kLeast_v,kMost_v];split <;> split <;> omega⟩,?_,fun w=>?_⟩
  ·unfold joinL
   rw [if_neg h1]
   congr 1
  ·exact join_ssC _ _ _ _ _ _ _ _ w (Key.bits_lt _) (Key.bits_lt _) (Key.bits_lt _) (Key.bits_lt _) y.lo y.hi (hid (canonS_canon _ _ hy)) s.lo s.hi (hid (canonS_canon _ _ hs)) (by rw [next_lt];exact hb) (by rw [next_lt];simp;omega)
theorem joinAll_len (l:List RK):∀ acc:List RK,(joinAll acc l).length≤acc.length+l.length:=by
 induction l with
 | nil=>intro acc;exact Nat.le_refl _
 | cons x t ih =>
  intro acc
  have h1:=ih (joinL acc x)
  have h2:=joinL_len acc x
  show (joinAll (joinL acc x) t).length≤_
  simp;omega

def NormRet (w:World) (l:List RK) (e:Ending) (w':World):Prop :=
 ∃ a c,e=.returned (.slice a l.length c)∧w'.ownsRow w.heap.size 150 4 (.slice a l.length c) l.length (sCells l)∧Below w.heap.size w w'

def SortForms (S:List RK→List RK):Prop:=∀ (w:World) (base:Nat) (a:Option Addr) (c:Nat) (l:List RK),w.ownsRow base 150 4 (.slice a l.length c) l.length (sCells l)→l.length<4611686018427387904 →
  Calls Tryz.prog 185 #[.slice a l.length c,.func (.func 159) #[] #[]] w fun e w'=>e=.returned (.tuple #[]) ∧
   w'.ownsRow base 150 4 (.slice a l.length c) l.length (sCells (S l))∧w.grownBy w' (Value.slice a l.length c).ownBlock

set_option maxHeartbeats 1000000 in
set_option maxRecDepth 100000 in
theorem norm_of (S:List RK→List RK) (hSl:∀ l,(S l).length=l.length) (hSr:∀ l,risesLo (S l)) (SF:SortForms S) (a:Option Addr) (c:Nat) (ss:List SpanV) (n:Nat) (w:World) (hn:ss.length=n) (h:SAt w a ss) (hlen:n≤5864062014634) :
  Calls Tryz.prog 111 #[.slice a n c] w (NormRet w (joinAll [] (S (forms ss)))):=by
 have HN:=hid hn;have HS:=hid h
 have HF:=hid fun i=>forms_take_le ss i
 have HT:Hid (forms (ss.take n)=forms ss):=hid (by rw [←hn,List.take_length])
 have hown0:w.ownsRow w.heap.size 150 4 (.slice none 0 0) 0 []:=⟨rfl,.inl ⟨rfl,rfl⟩⟩
 have H0:=hid hown0
 clear hn h hown0
 go_enter Tryz.func111,Tryz.ntmps111
 go_wp2
 go_loopw [13,3] (fun iv uv wr=>∃ (i:Nat) (u:Option Addr) (cu:Nat),i≤n∧iv=.int .i64 i∧uv=.slice u (forms (ss.take i)).length cu∧Hid (wr.ownsRow w.heap.size 150 4 (.slice u (forms (ss.take i)).length cu) (forms (ss.take i)).length (sCells (forms (ss.take i))))∧Below w.heap.size w wr) (fun iv _ _=>n-(intOf iv).toNat)
 case atStart=>exact ⟨0,none,0,Nat.zero_le _,rfl,rfl,H0,Below.refl _ _⟩
 case round =>
  obtain ⟨i,u,cu,hin,rfl,rfl,HO,hb⟩:=hrel
  have hz:=hb.size
  by_cases hlt:i<n
  ·have hlt':(i:Int)<(n:Int):=by omega
   have hil:i<ss.length:=by rw [HN.out];exact hlt
   have hx:=hid (sp_some hil)
   obtain ⟨l1,l2⟩:=HS.out.lt i hil
   have hrow:=HS.out.row
   rcases hrow with h0|⟨g,o,rfl,hg,hcs⟩
   ·rw [h0] at hil;simp at hil
   obtain ⟨c0,c1,c2,c3⟩:=hcs i hil
   have kk:=fun j=>hb.cell (p:=⟨g,j,none⟩) hg
   have d0:=(kk _).trans c0;have d1:=(kk _).trans c1;have d2:=(kk _).trans c2;have d3:=(kk _).trans c3
   have hle:=HF.out i
   rw [HN.out] at hle
   clear c0 c1 c2 c3 kk hcs hil
   generalize ss[i]?.getD default=s at *
   have hgw:g<wr.heap.size:=by omega
   rcases hr:canonS s.lo s.hi s.a s.b with _|⟨l,h⟩
   ·have hs:=forms_snoc hx.out
    rw [fO_none hr,List.append_nil] at hs
    have HR:=hid hs
    have HRR:=hid hr
    clear hs hr
    go_wp2_with (go_at_call 181;with_reducible refine mQ (canon_isN s.lo s.hi s.a s.b _ l1 l2 HRR) ?_;intro w1 hb1 hc1 hf1 hz1;intros;(try have hu1_wr_0:wr.heap.size<w1.heap.size:=by omega);(try have hu1_wr_1:wr.heap.size+1<w1.heap.size:=by omega))
    go_roundw
    case rel=>exact ⟨i+1,u,cu,by omega,by go_num,by rw [HR.out],hid (by rw [HR.out];exact HO.out.kept (grown_of_below (w:=wr) (by exact below_auto)) (by cases (Value.slice u (forms (ss.take i)).length cu).ownBlock <;> simp)),by exact below_auto⟩
    case measure=>simp [intOf];omega
   ·obtain ⟨x,rfl,rfl,hfx⟩:∃ x:RK,x.lo=l∧x.hi=h∧fO s=[x]:=⟨⟨l,h,canonS_le hr⟩,rfl,rfl,fO_some hr⟩
    have hs:=forms_snoc hx.out
    rw [hfx] at hs
    have HR:=hid hs
    have HRR:=hid hr
    clear hs hr hfx
    go_upto_region 7 with (go_at_call 181;with_reducible refine mQ (canon_isS s.lo s.hi s.a s.b x.lo x.hi _ l1 l2 HRR) ?_;intro w1 hb1 hc1 hf1 hz1;intros;(try have hu1_wr_0:wr.heap.size<w1.heap.size:=by omega);(try have hu1_wr_1:wr.heap.size+1<w1.heap.size:=by omega))
    (generalize hW5:World.setCell _ _ _=w5;have hB5:Below w.heap.size w w5:=(by rw [←hW5];exact below_auto);have hC5:Below wr.heap.size wr w5:=(by rw [←hW5];exact below_auto);have hS5:wr.heap.size<w5.heap.size:=(by rw [←hW5];first|(simp [go_sem];done)|(simp [go_sem];omega));have cx5_0:=congrArg (fun W=>W.cell? ⟨wr.heap.size,0,none⟩) hW5.symm;have fx5_0:=congrArg (fun W=>W.frozen? ⟨wr.heap.size,0,none⟩) hW5.symm;have cx5_1:=congrArg (fun W=>W.cell? ⟨wr.heap.size,1,none⟩) hW5.symm;have fx5_1:=congrArg (fun W=>W.frozen? ⟨wr.heap.size,1,none⟩) hW5.symm;have cx5_2:=congrArg (fun W=>W.cell? ⟨wr.heap.size,2,none⟩) hW5.symm;have fx5_2:=congrArg (fun W=>W.frozen? ⟨wr.heap.size,2,none⟩) hW5.symm;have cx5_3:=congrArg (fun W=>W.cell? ⟨wr.heap.size,3,none⟩) hW5.symm;have fx5_3:=congrArg (fun W=>W.frozen? ⟨wr.heap.size,3,none⟩) hW5.symm;clear hW5;simp [go_sem, *] at cx5_0;simp [go_sem, *] at fx5_0;simp [go_sem, *] at cx5_1;simp [go_sem, *] at fx5_1;simp [go_sem, *] at cx5_2;simp [go_sem, *] at fx5_2;simp [go_sem, *] at cx5_3;simp [go_sem, *] at fx5_3)
    have hown:=HO.out.kept (grown_of_below hC5) (by cases (Value.slice u (forms (ss.take i)).length cu).ownBlock <;> simp)
    clear hb1 hc1 hf1 hz1 hu1_wr_0
    (try clear hy1_0 hx1_0 hx1_1)
    obtain ⟨a',c',w',hr,ho',hb'⟩:=app1 x hB5 hown hB5.size (by omega)
    have HO':=hid ho'
    clear ho' hown
    go_wp2_with (at_builtin;refine Lib.wpList_append_run _ rfl _ _ _ _ rfl _ _ rfl rfl _ _ (hr _) ?_)
    go_roundw
    case rel=>exact ⟨i+1,a',c',by omega,by go_num,by rw [HR.out];simp,hid (by rw [HR.out,List.length_append];exact HO'.out),hb'⟩
    case measure=>simp [intOf];omega
  ·obtain rfl:i=n:=by omega
   have HO1:=HO.out
   have hle:=HF.out i
   rw [HN.out] at hle
   rw [HT.out] at HO1 hle ⊢
   have hl2:=hSl (forms ss)
   have hr2:=hSr (forms ss)
   clear HT HF HO HS H0
   generalize forms ss=F at *
   have H:=SF wr w.heap.size u cu F HO1 (by omega)
   go_wp2_with (go_at_call 185;refine H.mono ?_;rintro e w1 ⟨rfl,hown1,hg1⟩)
   clear H
   have hb1:Below w.heap.size w w1:=hb.grown hg1 hz (fun k hk=>(HO1.lt k hk).1)
   have hz1:=hb1.size
   generalize S F=G at *
   generalize F.length=m at *
   have HG:=hid hr2
   have HL:=hid hl2
   have HC:Hid (∀ wr,Below w1.heap.size w1 wr→∀ j,j<m→∃ g,u=some ⟨g,0,none⟩∧g<wr.heap.size∧wr.cell? ⟨g,j * 4,none⟩=some (.float .f64 (G[j]?.getD default).lo.bits)∧wr.cell? ⟨g,j * 4+1,none⟩=some (.float .f64 (G[j]?.getD default).hi.bits)∧wr.cell? ⟨g,j * 4+2,none⟩=some (.bool false)∧wr.cell? ⟨g,j * 4+3,none⟩=some (.bool false)):=hid fun wr hbw j hj=>by
    rcases hown1.2 with ⟨h1,h2⟩|⟨g,cap,cur,h1,_⟩
    ·omega
    ·cases h1
     have hcl:=hown1.cells (g:=g) rfl
     have hgl:=(hown1.lt g rfl).2
     have hx:G[j]? = some (G[j]?.getD default):=by rw [List.getElem?_eq_getElem (by omega)];rfl
     have:=hbw.size
     have q:=fun t (ht:t<4)=>flat_get enc_len hx ht
     have at':∀ t v,t<4→(enc (G[j]?.getD default))[t]? = some v→wr.cell? ⟨g,j * 4+t,none⟩=some v:=fun t v ht hv=>(hbw.cell (p:=⟨g,j * 4+t,none⟩) hgl).trans ((by rw [←addr0];exact hcl _ v ((q t ht).trans hv)))
     exact ⟨g,rfl,by omega,at' 0 _ (by omega) rfl,at' 1 _ (by omega) rfl,at' 2 _ (by omega) rfl,at' 3 _ (by omega) rfl⟩
   have h00:Hid (w1.ownsRow w1.heap.size 150 4 (.slice none 0 0) 0 []):=hid ⟨rfl,.inl ⟨rfl,rfl⟩⟩
   clear hg1 hr2 hl2 hown1 HO1
   go_wp2
   go_loopw [31,4] (fun iv uv w2=>∃ (j:Nat) (v:Option Addr) (cv:Nat),j≤m∧iv=.int .i64 j∧uv=.slice v (joinAll [] (G.take j)).length cv∧Hid (w2.ownsRow w1.heap.size 150 4 (.slice v (joinAll [] (G.take j)).length cv) (joinAll [] (G.take j)).length (sCells (joinAll [] (G.take j))))∧Below w1.heap.size w1 w2) (fun iv _ _=>m-(intOf iv).toNat)
   case atStart=>exact ⟨0,none,0,Nat.zero_le _,rfl,rfl,h00,Below.refl _ _⟩
   case round =>
    obtain ⟨j,v,cv,hjm,rfl,rfl,HO2,hb2⟩:=hrel
    have hz2:=hb2.size
    have hjl:=joinAll_len (G.take j) []
    rw [List.length_take,HL.out] at hjl
    simp only [List.length_nil,Nat.zero_add] at hjl
    by_cases hlt:j<m
    ·have hlt':(j:Int)<(m:Int):=by omega
     obtain ⟨g,rfl,hgw,d0,d1,d2,d3⟩:=HC.out wr hb2 j hlt
     have hx:G[j]? = some (G[j]?.getD default):=by rw [List.getElem?_eq_getElem (by rw [HL.out];omega)];rfl
     generalize G[j]?.getD default=x at *
     have hstep:=joinAll_take hx
     have hxle:=joinAll_le HG.out hx
     rcases List.eq_nil_or_concat (joinAll [] (G.take j)) with he|⟨p,y,he⟩
     ·rw [he] at HO2 hstep ⊢
      have HR:Hid (joinAll [] (G.take (j+1))=[]++[x]):=hid hstep
      clear hstep hxle he
      go_upto_region 17 with fail
      (generalize hW5:World.alloc _ _=w5;have hB5:Below w.heap.size w w5:=(by rw [←hW5];exact below_auto);have hC5:Below wr.heap.size wr w5:=(by rw [←hW5];exact below_auto);have hS5:wr.heap.size<w5.heap.size:=(by rw [←hW5];first|(simp [go_sem];done)|(simp [go_sem];omega));have cx5_0:=congrArg (fun W=>W.cell? ⟨wr.heap.size,0,none⟩) hW5.symm;have fx5_0:=congrArg (fun W=>W.frozen? ⟨wr.heap.size,0,none⟩) hW5.symm;have cx5_1:=congrArg (fun W=>W.cell? ⟨wr.heap.size,1,none⟩) hW5.symm;have fx5_1:=congrArg (fun W=>W.frozen? ⟨wr.heap.size,1,none⟩) hW5.symm;have cx5_2:=congrArg (fun W=>W.cell? ⟨wr.heap.size,2,none⟩) hW5.symm;have fx5_2:=congrArg (fun W=>W.frozen? ⟨wr.heap.size,2,none⟩) hW5.symm;have cx5_3:=congrArg (fun W=>W.cell? ⟨wr.heap.size,3,none⟩) hW5.symm;have fx5_3:=congrArg (fun W=>W.frozen? ⟨wr.heap.size,3,none⟩) hW5.symm;clear hW5;simp [go_sem, *] at cx5_0;simp [go_sem, *] at fx5_0;simp [go_sem, *] at cx5_1;simp [go_sem, *] at fx5_1;simp [go_sem, *] at cx5_2;simp [go_sem, *] at fx5_2;simp [go_sem, *] at cx5_3;simp [go_sem, *] at fx5_3)
      have hB6:Below w1.heap.size w1 w5:=hb2.trans (hC5.mono hz2)
      have hown:=HO2.out.kept (grown_of_below hC5) (by cases (Value.slice v ([]:List RK).length cv).ownBlock <;> simp)
      obtain ⟨a',c',w',hr,ho',hb'⟩:=app1 x hB6 hown hB6.size (by simp)
      have HO':=hid ho'
      clear ho' hown hjl
      simp only [List.length_nil,Nat.zero_add] at hr
      go_wp2_with (at_builtin;refine Lib.wpList_append_run _ rfl _ _ _ _ rfl _ _ rfl rfl _ _ (hr _) ?_)
      go_roundw
      case rel=>exact ⟨j+1,a',c',by omega,by go_num,by rw [HR.out];simp,hid (by rw [HR.out,List.length_append];exact HO'.out),hb'⟩
      case measure=>simp [intOf];omega
     ·rw [List.concat_eq_append] at he
      rw [he,joinL_snoc] at hstep
      rw [he] at HO2 hjl ⊢
      have hyx:y.lo.v≤x.lo.v:=hxle y (by rw [he];simp)
      clear hxle he hx
      have hpl:(p++[y]).length=p.length+1:=by simp
      rw [hpl] at HO2 hjl ⊢
      obtain ⟨q,hq⟩:∃ q,p.length=q:=⟨_,rfl⟩
      rw [hq] at HO2 hjl hpl ⊢
      rcases HO2.out.2 with ⟨h1,h2⟩|⟨g',cap,cur,h1,hbg,hbl,_⟩
      ·cases h1
      cases h1
      have hgl:=(HO2.out.lt g' rfl).2
      have hyx2:(p++[y])[q]? = some y:=by rw [List.getElem?_append_right (by omega),←hq];simp
      have hcl:=HO2.out.cells (g:=g') rfl
      have at':∀ t u,t<4→(enc y)[t]? = some u→wr.cell? ⟨g',q * 4+t,none⟩=some u:=fun t u ht hu=>by rw [←addr0];exact hcl _ u ((flat_get enc_len hyx2 ht).trans hu)
      have e0:wr.cell? ⟨g',q * 4,none⟩=some (.float .f64 y.lo.bits):=at' 0 _ (by omega) rfl
      have e1:=at' 1 _ (by omega) rfl
      have e2:=at' 2 _ (by omega) rfl
      have e3:=at' 3 _ (by omega) rfl
      have f':∀ o,wr.frozen? ⟨g',o,none⟩=false:=fun o=>by simp [World.frozen?,hbl]
      clear at' hcl hyx2 hbl hpl
      obtain ⟨b,hbq⟩:∃ b,decide (y.hi.v+1<x.lo.v)=b:=⟨_,rfl⟩
      have HJL:=fun W=>join_last y x hyx b hbq W
      cases b
      ·obtain ⟨z,hz',HJ⟩:=(HJL w).2 rfl
       clear HJL hbq hyx
       rw [hz'] at hstep
       have HR:=hid hstep
       clear hz' hstep
       go_upto_region 14 with fail
       (generalize hW5:World.alloc _ _=w5;have hB5:Below w.heap.size w w5:=(by rw [←hW5];exact below_auto);have hC5:Below wr.heap.size wr w5:=(by rw [←hW5];exact below_auto);have hS5:wr.heap.size<w5.heap.size:=(by rw [←hW5];first|(simp [go_sem];done)|(simp [go_sem];omega));have cx5_0:=congrArg (fun W=>W.cell? ⟨wr.heap.size,0,none⟩) hW5.symm;have fx5_0:=congrArg (fun W=>W.frozen? ⟨wr.heap.size,0,none⟩) hW5.symm;have cx5_1:=congrArg (fun W=>W.cell? ⟨wr.heap.size,1,none⟩) hW5.symm;have fx5_1:=congrArg (fun W=>W.frozen? ⟨wr.heap.size,1,none⟩) hW5.symm;have cx5_2:=congrArg (fun W=>W.cell? ⟨wr.heap.size,2,none⟩) hW5.symm;have fx5_2:=congrArg (fun W=>W.frozen? ⟨wr.heap.size,2,none⟩) hW5.symm;have cx5_3:=congrArg (fun W=>W.cell? ⟨wr.heap.size,3,none⟩) hW5.symm;have fx5_3:=congrArg (fun W=>W.frozen? ⟨wr.heap.size,3,none⟩) hW5.symm;clear hW5;simp [go_sem, *] at cx5_0;simp [go_sem, *] at fx5_0;simp [go_sem, *] at cx5_1;simp [go_sem, *] at fx5_1;simp [go_sem, *] at cx5_2;simp [go_sem, *] at fx5_2;simp [go_sem, *] at cx5_3;simp [go_sem, *] at fx5_3)
       have hgl5:g'<w5.heap.size:=by omega
       have x0:=(hC5.cell (p:=⟨g',_,none⟩) hgl).trans e0
       have x1:=(hC5.cell (p:=⟨g',_,none⟩) hgl).trans e1
       have x2:=(hC5.cell (p:=⟨g',_,none⟩) hgl).trans e2
       have x3:=(hC5.cell (p:=⟨g',_,none⟩) hgl).trans e3
       have hb25:=hb2.trans (hC5.mono hz2)
       have hz5:=hb25.size
       refine wp_region_notes_late [Note.val (.slice (some ⟨g',0,none⟩) (q+1) cv),Note.val (.slice (some ⟨g',0,none⟩) (q+1) cv),Note.val (.int .i64 ((q:Int)+1)),Note.val (.int .i64 q),Note.val (.pointer (some ⟨g',q * 4,none⟩)),Note.val (.agg #[.float .f64 y.lo.bits,.float .f64 y.hi.bits,.bool false,.bool false]),Note.val (.agg #[.float .f64 x.lo.bits,.float .f64 x.hi.bits,.bool false,.bool false]),Note.val (.tuple #[.agg #[.float .f64 z.lo.bits,.float .f64 z.hi.bits,.bool false,.bool false],.bool true]),Note.val (.tuple #[.agg #[.float .f64 z.lo.bits,.float .f64 z.hi.bits,.bool false,.bool false],.bool true]),Note.val (.agg #[.float .f64 z.lo.bits,.float .f64 z.hi.bits,.bool false,.bool false]),Note.val (.bool true),Note.ptr [.float .f64 0,.float .f64 0,.bool false,.bool false]] 10 rfl (by kernel_rfl) (by kernel_rfl) ?_ ?_ ?_
       ·simp only [List.length_cons,List.length_nil,Nat.reduceAdd,List.take_succ_cons,List.take_zero,StepsN,List.nil_append,List.cons_append]
        refine ⟨?_,?_,?_,?_,?_,?_,?_,?_,?_,?_,?_,?_,trivial⟩
        ·intro u w6 hb6 hd
         refine mB hb6 ?_;intro hc6 hf6 hz6;intros
         refine mH ?_;clear hd
         ((try simp only [forall_exists_index,and_imp]);intros)
         clear u
         go_wp2_with (first|(go_at_call 186;(with_reducible refine (HJ _).mono ?_);rintro e wy ⟨rfl,hby⟩))
         exact ⟨rfl,by exact below_auto,rfl⟩
        ·intro u w6 hb6 hd
         refine mB hb6 ?_;intro hc6 hf6 hz6;intros
         refine mH ?_;clear hd
         generalize u 0=u0
         ((try simp only [forall_exists_index,and_imp]);intros)
         (try subst u0)
         clear u
         go_wp2_with (first|(go_at_call 186;(with_reducible refine (HJ _).mono ?_);rintro e wy ⟨rfl,hby⟩))
         exact ⟨rfl,by exact below_auto,rfl⟩
        ·intro u w6 hb6 hd
         refine mB hb6 ?_;intro hc6 hf6 hz6;intros
         refine mH ?_;clear hd
         generalize u 0=u0
         generalize u 1=u1
         ((try simp only [forall_exists_index,and_imp]);intros)
         (try subst u0)
         (try subst u1)
         clear u
         go_wp2_with (first|(go_at_call 186;(with_reducible refine (HJ _).mono ?_);rintro e wy ⟨rfl,hby⟩))
         exact ⟨rfl,by exact below_auto,rfl⟩
        ·intro u w6 hb6 hd
         refine mB hb6 ?_;intro hc6 hf6 hz6;intros
         refine mH ?_;clear hd
         generalize u 0=u0
         generalize u 1=u1
         generalize u 2=u2
         ((try simp only [forall_exists_index,and_imp]);intros)
         (try subst u0)
         (try subst u1)
         (try subst u2)
         clear u
         go_wp2_with (first|(go_at_call 186;(with_reducible refine (HJ _).mono ?_);rintro e wy ⟨rfl,hby⟩))
         exact ⟨rfl,by exact below_auto,rfl⟩
        ·intro u w6 hb6 hd
         refine mB hb6 ?_;intro hc6 hf6 hz6;intros
         refine mH ?_;clear hd
         generalize u 0=u0
         generalize u 1=u1
         generalize u 2=u2
         generalize u 3=u3
         ((try simp only [forall_exists_index,and_imp]);intros)
         (try subst u0)
         (try subst u1)
         (try subst u2)
         (try subst u3)
         clear u
         go_wp2_with (first|(go_at_call 186;(with_reducible refine (HJ _).mono ?_);rintro e wy ⟨rfl,hby⟩))
         exact ⟨rfl,by exact below_auto,rfl⟩
        ·intro u w6 hb6 hd
         refine mB hb6 ?_;intro hc6 hf6 hz6;intros
         refine mH ?_;clear hd
         generalize u 0=u0
         generalize u 1=u1
         generalize u 2=u2
         generalize u 3=u3
         generalize u 4=u4
         ((try simp only [forall_exists_index,and_imp]);intros)
         (try subst u0)
         (try subst u1)
         (try subst u2)
         (try subst u3)
         (try subst u4)
         clear u
         go_wp2_with (first|(go_at_call 186;(with_reducible refine (HJ _).mono ?_);rintro e wy ⟨rfl,hby⟩))
         exact ⟨rfl,by exact below_auto,rfl⟩
        ·intro u w6 hb6 hd
         refine mB hb6 ?_;intro hc6 hf6 hz6;intros
         refine mH ?_;clear hd
         generalize u 0=u0
         generalize u 1=u1
         generalize u 2=u2
         generalize u 3=u3
         generalize u 4=u4
         generalize u 5=u5
         ((try simp only [forall_exists_index,and_imp]);intros)
         (try subst u0)
         (try subst u1)
         (try subst u2)
         (try subst u3)
         (try subst u4)
         (try subst u5)
         clear u
         go_wp2_with (first|(go_at_call 186;(with_reducible refine (HJ _).mono ?_);rintro e wy ⟨rfl,hby⟩))
         exact ⟨rfl,by exact below_auto,rfl⟩
        ·intro u w6 hb6 hd
         refine mB hb6 ?_;intro hc6 hf6 hz6;intros
         refine mH ?_;clear hd
         generalize u 0=u0
         generalize u 1=u1
         generalize u 2=u2
         generalize u 3=u3
         generalize u 4=u4
         generalize u 5=u5
         generalize u 6=u6
         ((try simp only [forall_exists_index,and_imp]);intros)
         (try subst u0)
         (try subst u1)
         (try subst u2)
         (try subst u3)
         (try subst u4)
         (try subst u5)
         (try subst u6)
         clear u
         go_wp2_with (first|(go_at_call 186;(with_reducible refine (HJ _).mono ?_);rintro e wy ⟨rfl,hby⟩))
         exact ⟨rfl,by exact below_auto,rfl⟩
        ·intro u w6 hb6 hd
         refine mB hb6 ?_;intro hc6 hf6 hz6;intros
         refine mH ?_;clear hd
         generalize u 0=u0
         generalize u 1=u1
         generalize u 2=u2
         generalize u 3=u3
         generalize u 4=u4
         generalize u 5=u5
         generalize u 6=u6
         generalize u 7=u7
         ((try simp only [forall_exists_index,and_imp]);intros)
         (try subst u0)
         (try subst u1)
         (try subst u2)
         (try subst u3)
         (try subst u4)
         (try subst u5)
         (try subst u6)
         (try subst u7)
         clear u
         go_wp2_with (first|(go_at_call 186;(with_reducible refine (HJ _).mono ?_);rintro e wy ⟨rfl,hby⟩))
         exact ⟨rfl,by exact below_auto,rfl⟩
        ·intro u w6 hb6 hd
         refine mB hb6 ?_;intro hc6 hf6 hz6;intros
         refine mH ?_;clear hd
         generalize u 0=u0
         generalize u 1=u1
         generalize u 2=u2
         generalize u 3=u3
         generalize u 4=u4
         generalize u 5=u5
         generalize u 6=u6
         generalize u 7=u7
         generalize u 8=u8
         ((try simp only [forall_exists_index,and_imp]);intros)
         (try subst u0)
         (try subst u1)
         (try subst u2)
         (try subst u3)
         (try subst u4)
         (try subst u5)
         (try subst u6)
         (try subst u7)
         (try subst u8)
         clear u
         go_wp2_with (first|(go_at_call 186;(with_reducible refine (HJ _).mono ?_);rintro e wy ⟨rfl,hby⟩))
         exact ⟨rfl,by exact below_auto,rfl⟩
        ·intro u w6 hb6 hd
         refine mB hb6 ?_;intro hc6 hf6 hz6;intros
         refine mH ?_;clear hd
         generalize u 0=u0
         generalize u 1=u1
         generalize u 2=u2
         generalize u 3=u3
         generalize u 4=u4
         generalize u 5=u5
         generalize u 6=u6
         generalize u 7=u7
         generalize u 8=u8
         generalize u 9=u9
         ((try simp only [forall_exists_index,and_imp]);intros)
         (try subst u0)
         (try subst u1)
         (try subst u2)
         (try subst u3)
         (try subst u4)
         (try subst u5)
         (try subst u6)
         (try subst u7)
         (try subst u8)
         (try subst u9)
         clear u
         go_wp2_with (first|(go_at_call 186;(with_reducible refine (HJ _).mono ?_);rintro e wy ⟨rfl,hby⟩))
         exact ⟨rfl,by exact below_auto,rfl⟩
        ·intro u w6 hb6 hd
         refine mB hb6 ?_;intro hc6 hf6 hz6;intros
         refine mH ?_;clear hd
         generalize u 0=u0
         generalize u 1=u1
         generalize u 2=u2
         generalize u 3=u3
         generalize u 4=u4
         generalize u 5=u5
         generalize u 6=u6
         generalize u 7=u7
         generalize u 8=u8
         generalize u 9=u9
         generalize u 10=u10
         ((try simp only [forall_exists_index,and_imp]);intros)
         (try subst u0)
         (try subst u1)
         (try subst u2)
         (try subst u3)
         (try subst u4)
         (try subst u5)
         (try subst u6)
         (try subst u7)
         (try subst u8)
         (try subst u9)
         (try subst u10)
         clear u
         go_wp2_with (first|(go_at_call 186;(with_reducible refine (HJ _).mono ?_);rintro e wy ⟨rfl,hby⟩))
         exact ⟨rfl,by exact below_auto,w6.heap.size,rfl,Nat.le_refl _,by simp,by simp [cellsAre,go_sem]⟩
       intro u w6 hb6 hph hap
       refine mB hb6 ?_;intro hc6 hf6 hz6;intros
       have hp0:=hph 0 (by simp)
       have hp1:=hph 1 (by simp)
       have hp2:=hph 2 (by simp)
       have hp3:=hph 3 (by simp)
       have hp4:=hph 4 (by simp)
       have hp5:=hph 5 (by simp)
       have hp6:=hph 6 (by simp)
       have hp7:=hph 7 (by simp)
       have hp8:=hph 8 (by simp)
       have hp9:=hph 9 (by simp)
       have hp10:=hph 10 (by simp)
       have hp11:=hph 11 (by simp)
       clear hph hap
       simp only [List.length_cons,List.length_nil,List.take_succ_cons,List.take_zero,List.drop_succ_cons,List.drop_zero,List.cons_append,List.nil_append,putsFrom,putsBut,Act.put,qA,qB,qC,Nat.zero_add,Nat.reduceAdd,Nat.reduceEqDiff,if_true,if_false,reduceIte,Nat.zero_ne_one,Nat.one_ne_zero]
       generalize u 0=u0 at *
       generalize u 1=u1 at *
       generalize u 2=u2 at *
       generalize u 3=u3 at *
       generalize u 4=u4 at *
       generalize u 5=u5 at *
       generalize u 6=u6 at *
       generalize u 7=u7 at *
       generalize u 8=u8 at *
       generalize u 9=u9 at *
       generalize u 10=u10 at *
       generalize u 11=u11 at *
       clear u
       cases hp0
       cases hp1
       cases hp2
       cases hp3
       cases hp4
       cases hp5
       cases hp6
       cases hp7
       cases hp8
       cases hp9
       cases hp10
       obtain ⟨B11,rfl,hl11,hg11,hs11⟩:=hp11
       (try simp only [cellsAre,and_true] at hs11)
       rotate_left
       intro u w6 hb6 hph hap
       refine mB hb6 ?_;intro hc6 hf6 hz6;intros
       have hp0:=hph 0 (by simp) (by decide)
       have hp1:=hph 1 (by simp) (by decide)
       have hp2:=hph 2 (by simp) (by decide)
       have hp3:=hph 3 (by simp) (by decide)
       have hp4:=hph 4 (by simp) (by decide)
       have hp5:=hph 5 (by simp) (by decide)
       have hp6:=hph 6 (by simp) (by decide)
       have hp7:=hph 7 (by simp) (by decide)
       have hp8:=hph 8 (by simp) (by decide)
       have hp9:=hph 9 (by simp) (by decide)
       have hp11:=hph 11 (by simp) (by decide)
       clear hph hap
       simp only [List.length_cons,List.length_nil,List.take_succ_cons,List.take_zero,List.drop_succ_cons,List.drop_zero,List.cons_append,List.nil_append,putsFrom,putsBut,Act.put,qA,qB,qC,Nat.zero_add,Nat.reduceAdd,Nat.reduceEqDiff,if_true,if_false,reduceIte,Nat.zero_ne_one,Nat.one_ne_zero]
       generalize u 0=u0 at *
       generalize u 1=u1 at *
       generalize u 2=u2 at *
       generalize u 3=u3 at *
       generalize u 4=u4 at *
       generalize u 5=u5 at *
       generalize u 6=u6 at *
       generalize u 7=u7 at *
       generalize u 8=u8 at *
       generalize u 9=u9 at *
       generalize u 11=u11 at *
       clear u
       cases hp0
       cases hp1
       cases hp2
       cases hp3
       cases hp4
       cases hp5
       cases hp6
       cases hp7
       cases hp8
       cases hp9
       obtain ⟨B11,rfl,hl11,hg11,hs11⟩:=hp11
       (try simp only [cellsAre,and_true] at hs11)
       rotate_left
       all_goals
        go_upto_region 16 with fail
        have hlB:w5.heap.size≤B11:=by simpa using hl11
        have hC6:Below wr.heap.size wr w6:=by (repeat (first|with_reducible exact Below.refl _ _|((with_reducible refine Below.alloc1 ?_ ?_ _);(· first|omega|(simp;done)|(simp;omega)))|(with_reducible refine Below.drew ?_)|(with_reducible refine below_drewN' ?_ _)|((with_reducible refine Below.setCell1 ?_ ?_ _);(· first|omega|(simp;done)|(simp;omega)))|((with_reducible refine Below.after (by assumption) ?_ ?_);(· first|omega|(simp;done)|(simp;omega)))));exact hC5
        generalize hW7:World.setCell _ _ _=w7
        have hC7:Below wr.heap.size wr w7:=by rw [←hW7];exact below_auto
        have hB7:Below w1.heap.size w1 w7:=hb2.trans (hC7.mono hz2)
        have hz7:=hC7.size
        have k0:=congrArg (fun W=>W.cell? ⟨B11,0,none⟩) hW7.symm
        have k1:=congrArg (fun W=>W.cell? ⟨B11,1,none⟩) hW7.symm
        have k2:=congrArg (fun W=>W.cell? ⟨B11,2,none⟩) hW7.symm
        have k3:=congrArg (fun W=>W.cell? ⟨B11,3,none⟩) hW7.symm
        clear hW7
        simp [go_sem, *] at k0 k1 k2 k3
        have y0:=(hC7.cell (p:=⟨g',_,none⟩) hgl).trans e0
        have y1:=(hC7.cell (p:=⟨g',_,none⟩) hgl).trans e1
        have y2:=(hC7.cell (p:=⟨g',_,none⟩) hgl).trans e2
        have y3:=(hC7.cell (p:=⟨g',_,none⟩) hgl).trans e3
        have yf:∀ o,w7.frozen? ⟨g',o,none⟩=false:=fun o=>(hC7.frozen (p:=⟨g',o,none⟩) hgl).trans (f' o)
        have hown7:=HO2.out.kept (grown_of_below hC7) (by cases (Value.slice (some ⟨g',0,none⟩) (q+1) cv).ownBlock <;> simp)
        have hset:=own_set4 z hq hown7
        have hBs:=hB7.grown hset.2 hB7.size (fun k hk=>by cases hk;exact hbg)
        have HSet:=hid hset
        have HBs:=hid hBs
        clear hset hBs hown7 hc6 hf6 hs11 f'
        go_wp2_with fail
        go_roundw
        case rel=>exact ⟨j+1,some ⟨g',0,none⟩,cv,by omega,by go_num,by rw [HR.out];simp [hq],hid (by rw [HR.out,List.length_append,hq];exact HSet.out.1),HBs.out⟩
        case measure=>simp [intOf];omega
      ·obtain ⟨hz',_⟩:=(HJL w).1 rfl
       have HJ:=fun W=>((HJL W).1 rfl).2
       clear HJL hbq hyx
       rw [hz'] at hstep
       have HR:Hid (joinAll [] (G.take (j+1))=(p++[y])++[x]):=hid (by rw [hstep,List.append_assoc];rfl)
       clear hz' hstep
       go_upto_region 14 with fail
       (generalize hW5:World.alloc _ _=w5;have hB5:Below w.heap.size w w5:=(by rw [←hW5];exact below_auto);have hC5:Below wr.heap.size wr w5:=(by rw [←hW5];exact below_auto);have hS5:wr.heap.size<w5.heap.size:=(by rw [←hW5];first|(simp [go_sem];done)|(simp [go_sem];omega));have cx5_0:=congrArg (fun W=>W.cell? ⟨wr.heap.size,0,none⟩) hW5.symm;have fx5_0:=congrArg (fun W=>W.frozen? ⟨wr.heap.size,0,none⟩) hW5.symm;have cx5_1:=congrArg (fun W=>W.cell? ⟨wr.heap.size,1,none⟩) hW5.symm;have fx5_1:=congrArg (fun W=>W.frozen? ⟨wr.heap.size,1,none⟩) hW5.symm;have cx5_2:=congrArg (fun W=>W.cell? ⟨wr.heap.size,2,none⟩) hW5.symm;have fx5_2:=congrArg (fun W=>W.frozen? ⟨wr.heap.size,2,none⟩) hW5.symm;have cx5_3:=congrArg (fun W=>W.cell? ⟨wr.heap.size,3,none⟩) hW5.symm;have fx5_3:=congrArg (fun W=>W.frozen? ⟨wr.heap.size,3,none⟩) hW5.symm;clear hW5;simp [go_sem, *] at cx5_0;simp [go_sem, *] at fx5_0;simp [go_sem, *] at cx5_1;simp [go_sem, *] at fx5_1;simp [go_sem, *] at cx5_2;simp [go_sem, *] at fx5_2;simp [go_sem, *] at cx5_3;simp [go_sem, *] at fx5_3)
       have hgl5:g'<w5.heap.size:=by omega
       have x0:=(hC5.cell (p:=⟨g',_,none⟩) hgl).trans e0
       have x1:=(hC5.cell (p:=⟨g',_,none⟩) hgl).trans e1
       have x2:=(hC5.cell (p:=⟨g',_,none⟩) hgl).trans e2
       have x3:=(hC5.cell (p:=⟨g',_,none⟩) hgl).trans e3
       have hb25:=hb2.trans (hC5.mono hz2)
       have hz5:=hb25.size
       refine wp_region_notes_late [Note.val (.slice (some ⟨g',0,none⟩) (q+1) cv),Note.val (.slice (some ⟨g',0,none⟩) (q+1) cv),Note.val (.int .i64 ((q:Int)+1)),Note.val (.int .i64 q),Note.val (.pointer (some ⟨g',q * 4,none⟩)),Note.val (.agg #[.float .f64 y.lo.bits,.float .f64 y.hi.bits,.bool false,.bool false]),Note.val (.agg #[.float .f64 x.lo.bits,.float .f64 x.hi.bits,.bool false,.bool false]),Note.val (.tuple #[.agg #[.float .f64 0,.float .f64 0,.bool true,.bool true],.bool false]),Note.val (.tuple #[.agg #[.float .f64 0,.float .f64 0,.bool true,.bool true],.bool false]),Note.val (.agg #[.float .f64 0,.float .f64 0,.bool true,.bool true]),Note.val (.bool false),Note.ptr [.float .f64 0,.float .f64 0,.bool false,.bool false]] 10 rfl (by kernel_rfl) (by kernel_rfl) ?_ ?_ ?_
       ·simp only [List.length_cons,List.length_nil,Nat.reduceAdd,List.take_succ_cons,List.take_zero,StepsN,List.nil_append,List.cons_append]
        refine ⟨?_,?_,?_,?_,?_,?_,?_,?_,?_,?_,?_,?_,trivial⟩
        ·intro u w6 hb6 hd
         refine mB hb6 ?_;intro hc6 hf6 hz6;intros
         refine mH ?_;clear hd
         ((try simp only [forall_exists_index,and_imp]);intros)
         clear u
         go_wp2_with (first|(go_at_call 186;(with_reducible refine (HJ _).mono ?_);rintro e wy ⟨rfl,hby⟩))
         exact ⟨rfl,by exact below_auto,rfl⟩
        ·intro u w6 hb6 hd
         refine mB hb6 ?_;intro hc6 hf6 hz6;intros
         refine mH ?_;clear hd
         generalize u 0=u0
         ((try simp only [forall_exists_index,and_imp]);intros)
         (try subst u0)
         clear u
         go_wp2_with (first|(go_at_call 186;(with_reducible refine (HJ _).mono ?_);rintro e wy ⟨rfl,hby⟩))
         exact ⟨rfl,by exact below_auto,rfl⟩
        ·intro u w6 hb6 hd
         refine mB hb6 ?_;intro hc6 hf6 hz6;intros
         refine mH ?_;clear hd
         generalize u 0=u0
         generalize u 1=u1
         ((try simp only [forall_exists_index,and_imp]);intros)
         (try subst u0)
         (try subst u1)
         clear u
         go_wp2_with (first|(go_at_call 186;(with_reducible refine (HJ _).mono ?_);rintro e wy ⟨rfl,hby⟩))
         exact ⟨rfl,by exact below_auto,rfl⟩
        ·intro u w6 hb6 hd
         refine mB hb6 ?_;intro hc6 hf6 hz6;intros
         refine mH ?_;clear hd
         generalize u 0=u0
         generalize u 1=u1
         generalize u 2=u2
         ((try simp only [forall_exists_index,and_imp]);intros)
         (try subst u0)
         (try subst u1)
         (try subst u2)
         clear u
         go_wp2_with (first|(go_at_call 186;(with_reducible refine (HJ _).mono ?_);rintro e wy ⟨rfl,hby⟩))
         exact ⟨rfl,by exact below_auto,rfl⟩
        ·intro u w6 hb6 hd
         refine mB hb6 ?_;intro hc6 hf6 hz6;intros
         refine mH ?_;clear hd
         generalize u 0=u0
         generalize u 1=u1
         generalize u 2=u2
         generalize u 3=u3
         ((try simp only [forall_exists_index,and_imp]);intros)
         (try subst u0)
         (try subst u1)
         (try subst u2)
         (try subst u3)
         clear u
         go_wp2_with (first|(go_at_call 186;(with_reducible refine (HJ _).mono ?_);rintro e wy ⟨rfl,hby⟩))
         exact ⟨rfl,by exact below_auto,rfl⟩
        ·intro u w6 hb6 hd
         refine mB hb6 ?_;intro hc6 hf6 hz6;intros
         refine mH ?_;clear hd
         generalize u 0=u0
         generalize u 1=u1
         generalize u 2=u2
         generalize u 3=u3
         generalize u 4=u4
         ((try simp only [forall_exists_index,and_imp]);intros)
         (try subst u0)
         (try subst u1)
         (try subst u2)
         (try subst u3)
         (try subst u4)
         clear u
         go_wp2_with (first|(go_at_call 186;(with_reducible refine (HJ _).mono ?_);rintro e wy ⟨rfl,hby⟩))
         exact ⟨rfl,by exact below_auto,rfl⟩
        ·intro u w6 hb6 hd
         refine mB hb6 ?_;intro hc6 hf6 hz6;intros
         refine mH ?_;clear hd
         generalize u 0=u0
         generalize u 1=u1
         generalize u 2=u2
         generalize u 3=u3
         generalize u 4=u4
         generalize u 5=u5
         ((try simp only [forall_exists_index,and_imp]);intros)
         (try subst u0)
         (try subst u1)
         (try subst u2)
         (try subst u3)
         (try subst u4)
         (try subst u5)
         clear u
         go_wp2_with (first|(go_at_call 186;(with_reducible refine (HJ _).mono ?_);rintro e wy ⟨rfl,hby⟩))
         exact ⟨rfl,by exact below_auto,rfl⟩
        ·intro u w6 hb6 hd
         refine mB hb6 ?_;intro hc6 hf6 hz6;intros
         refine mH ?_;clear hd
         generalize u 0=u0
         generalize u 1=u1
         generalize u 2=u2
         generalize u 3=u3
         generalize u 4=u4
         generalize u 5=u5
         generalize u 6=u6
         ((try simp only [forall_exists_index,and_imp]);intros)
         (try subst u0)
         (try subst u1)
         (try subst u2)
         (try subst u3)
         (try subst u4)
         (try subst u5)
         (try subst u6)
         clear u
         go_wp2_with (first|(go_at_call 186;(with_reducible refine (HJ _).mono ?_);rintro e wy ⟨rfl,hby⟩))
         exact ⟨rfl,by exact below_auto,rfl⟩
        ·intro u w6 hb6 hd
         refine mB hb6 ?_;intro hc6 hf6 hz6;intros
         refine mH ?_;clear hd
         generalize u 0=u0
         generalize u 1=u1
         generalize u 2=u2
         generalize u 3=u3
         generalize u 4=u4
         generalize u 5=u5
         generalize u 6=u6
         generalize u 7=u7
         ((try simp only [forall_exists_index,and_imp]);intros)
         (try subst u0)
         (try subst u1)
         (try subst u2)
         (try subst u3)
         (try subst u4)
         (try subst u5)
         (try subst u6)
         (try subst u7)
         clear u
         go_wp2_with (first|(go_at_call 186;(with_reducible refine (HJ _).mono ?_);rintro e wy ⟨rfl,hby⟩))
         exact ⟨rfl,by exact below_auto,rfl⟩
        ·intro u w6 hb6 hd
         refine mB hb6 ?_;intro hc6 hf6 hz6;intros
         refine mH ?_;clear hd
         generalize u 0=u0
         generalize u 1=u1
         generalize u 2=u2
         generalize u 3=u3
         generalize u 4=u4
         generalize u 5=u5
         generalize u 6=u6
         generalize u 7=u7
         generalize u 8=u8
         ((try simp only [forall_exists_index,and_imp]);intros)
         (try subst u0)
         (try subst u1)
         (try subst u2)
         (try subst u3)
         (try subst u4)
         (try subst u5)
         (try subst u6)
         (try subst u7)
         (try subst u8)
         clear u
         go_wp2_with (first|(go_at_call 186;(with_reducible refine (HJ _).mono ?_);rintro e wy ⟨rfl,hby⟩))
         exact ⟨rfl,by exact below_auto,rfl⟩
        ·intro u w6 hb6 hd
         refine mB hb6 ?_;intro hc6 hf6 hz6;intros
         refine mH ?_;clear hd
         generalize u 0=u0
         generalize u 1=u1
         generalize u 2=u2
         generalize u 3=u3
         generalize u 4=u4
         generalize u 5=u5
         generalize u 6=u6
         generalize u 7=u7
         generalize u 8=u8
         generalize u 9=u9
         ((try simp only [forall_exists_index,and_imp]);intros)
         (try subst u0)
         (try subst u1)
         (try subst u2)
         (try subst u3)
         (try subst u4)
         (try subst u5)
         (try subst u6)
         (try subst u7)
         (try subst u8)
         (try subst u9)
         clear u
         go_wp2_with (first|(go_at_call 186;(with_reducible refine (HJ _).mono ?_);rintro e wy ⟨rfl,hby⟩))
         exact ⟨rfl,by exact below_auto,rfl⟩
        ·intro u w6 hb6 hd
         refine mB hb6 ?_;intro hc6 hf6 hz6;intros
         refine mH ?_;clear hd
         generalize u 0=u0
         generalize u 1=u1
         generalize u 2=u2
         generalize u 3=u3
         generalize u 4=u4
         generalize u 5=u5
         generalize u 6=u6
         generalize u 7=u7
         generalize u 8=u8
         generalize u 9=u9
         generalize u 10=u10
         ((try simp only [forall_exists_index,and_imp]);intros)
         (try subst u0)
         (try subst u1)
         (try subst u2)
         (try subst u3)
         (try subst u4)
         (try subst u5)
         (try subst u6)
         (try subst u7)
         (try subst u8)
         (try subst u9)
         (try subst u10)
         clear u
         go_wp2_with (first|(go_at_call 186;(with_reducible refine (HJ _).mono ?_);rintro e wy ⟨rfl,hby⟩))
         exact ⟨rfl,by exact below_auto,w6.heap.size,rfl,Nat.le_refl _,by simp,by simp [cellsAre,go_sem]⟩
       intro u w6 hb6 hph hap
       refine mB hb6 ?_;intro hc6 hf6 hz6;intros
       have hp0:=hph 0 (by simp)
       have hp1:=hph 1 (by simp)
       have hp2:=hph 2 (by simp)
       have hp3:=hph 3 (by simp)
       have hp4:=hph 4 (by simp)
       have hp5:=hph 5 (by simp)
       have hp6:=hph 6 (by simp)
       have hp7:=hph 7 (by simp)
       have hp8:=hph 8 (by simp)
       have hp9:=hph 9 (by simp)
       have hp10:=hph 10 (by simp)
       have hp11:=hph 11 (by simp)
       clear hph hap
       simp only [List.length_cons,List.length_nil,List.take_succ_cons,List.take_zero,List.drop_succ_cons,List.drop_zero,List.cons_append,List.nil_append,putsFrom,putsBut,Act.put,qA,qB,qC,Nat.zero_add,Nat.reduceAdd,Nat.reduceEqDiff,if_true,if_false,reduceIte,Nat.zero_ne_one,Nat.one_ne_zero]
       generalize u 0=u0 at *
       generalize u 1=u1 at *
       generalize u 2=u2 at *
       generalize u 3=u3 at *
       generalize u 4=u4 at *
       generalize u 5=u5 at *
       generalize u 6=u6 at *
       generalize u 7=u7 at *
       generalize u 8=u8 at *
       generalize u 9=u9 at *
       generalize u 10=u10 at *
       generalize u 11=u11 at *
       clear u
       cases hp0
       cases hp1
       cases hp2
       cases hp3
       cases hp4
       cases hp5
       cases hp6
       cases hp7
       cases hp8
       cases hp9
       cases hp10
       obtain ⟨B11,rfl,hl11,hg11,hs11⟩:=hp11
       (try simp only [cellsAre,and_true] at hs11)
       rotate_left
       intro u w6 hb6 hph hap
       refine mB hb6 ?_;intro hc6 hf6 hz6;intros
       have hp0:=hph 0 (by simp) (by decide)
       have hp1:=hph 1 (by simp) (by decide)
       have hp2:=hph 2 (by simp) (by decide)
       have hp3:=hph 3 (by simp) (by decide)
       have hp4:=hph 4 (by simp) (by decide)
       have hp5:=hph 5 (by simp) (by decide)
       have hp6:=hph 6 (by simp) (by decide)
       have hp7:=hph 7 (by simp) (by decide)
       have hp8:=hph 8 (by simp) (by decide)
       have hp9:=hph 9 (by simp) (by decide)
       have hp11:=hph 11 (by simp) (by decide)
       clear hph hap
       simp only [List.length_cons,List.length_nil,List.take_succ_cons,List.take_zero,List.drop_succ_cons,List.drop_zero,List.cons_append,List.nil_append,putsFrom,putsBut,Act.put,qA,qB,qC,Nat.zero_add,Nat.reduceAdd,Nat.reduceEqDiff,if_true,if_false,reduceIte,Nat.zero_ne_one,Nat.one_ne_zero]
       generalize u 0=u0 at *
       generalize u 1=u1 at *
       generalize u 2=u2 at *
       generalize u 3=u3 at *
       generalize u 4=u4 at *
       generalize u 5=u5 at *
       generalize u 6=u6 at *
       generalize u 7=u7 at *
       generalize u 8=u8 at *
       generalize u 9=u9 at *
       generalize u 11=u11 at *
       clear u
       cases hp0
       cases hp1
       cases hp2
       cases hp3
       cases hp4
       cases hp5
       cases hp6
       cases hp7
       cases hp8
       cases hp9
       obtain ⟨B11,rfl,hl11,hg11,hs11⟩:=hp11
       (try simp only [cellsAre,and_true] at hs11)
       rotate_left
       all_goals
        go_upto_region 17 with fail
        have hlB:w5.heap.size≤B11:=by simpa using hl11
        have hC6:Below wr.heap.size wr w6:=by (repeat (first|with_reducible exact Below.refl _ _|((with_reducible refine Below.alloc1 ?_ ?_ _);(· first|omega|(simp;done)|(simp;omega)))|(with_reducible refine Below.drew ?_)|(with_reducible refine below_drewN' ?_ _)|((with_reducible refine Below.setCell1 ?_ ?_ _);(· first|omega|(simp;done)|(simp;omega)))|((with_reducible refine Below.after (by assumption) ?_ ?_);(· first|omega|(simp;done)|(simp;omega)))));exact hC5
        generalize hW7:World.setCell _ _ _=w7
        have hC7:Below wr.heap.size wr w7:=by rw [←hW7];exact below_auto
        have hB7:Below w1.heap.size w1 w7:=hb2.trans (hC7.mono hz2)
        have hz7:=hC7.size
        have hS7:wr.heap.size<w7.heap.size:=by rw [←hW7];simp [go_sem];omega
        have k0:=congrArg (fun W=>W.cell? ⟨wr.heap.size,0,none⟩) hW7.symm
        have k1:=congrArg (fun W=>W.cell? ⟨wr.heap.size,1,none⟩) hW7.symm
        have k2:=congrArg (fun W=>W.cell? ⟨wr.heap.size,2,none⟩) hW7.symm
        have k3:=congrArg (fun W=>W.cell? ⟨wr.heap.size,3,none⟩) hW7.symm
        clear hW7
        simp [go_sem, *] at k0 k1 k2 k3
        have hown7:=HO2.out.kept (grown_of_below hC7) (by cases (Value.slice (some ⟨g',0,none⟩) (q+1) cv).ownBlock <;> simp)
        obtain ⟨a',c',w',hr,ho',hb'⟩:=app1 (l:=p++[y]) (c:=cv) (a:=some ⟨g',0,none⟩) x hB7 (by rw [List.length_append,hq];exact hown7) hB7.size (by rw [List.length_append,hq];simp;omega)
        have HO':=hid ho'
        have hpl:(p++[y]).length=q+1:=by rw [List.length_append,hq];rfl
        rw [hpl] at hr
        clear ho' hown7 hc6 hf6 hs11 f' hjl hpl
        go_wp2_with (at_builtin;refine Lib.wpList_append_run _ rfl _ _ _ _ rfl _ _ rfl rfl _ _ (hr _) ?_)
        go_roundw
        case rel=>exact ⟨j+1,a',c',by omega,by go_num,by rw [HR.out];simp [hq],hid (by rw [HR.out,List.length_append];exact HO'.out),hb'⟩
        case measure=>simp [intOf];omega
    ·obtain rfl:j=m:=by omega
     have htk:G.take j=G:=by rw [←HL.out,List.take_length]
     rw [htk] at HO2 ⊢
     have hfin:∀ W,Below wr.heap.size wr W→NormRet w (joinAll [] G) (.returned (.slice v (joinAll [] G).length cv)) W:=fun W h1 =>
      ⟨v,cv,rfl,own_le (HO2.out.kept (grown_of_below h1) (by cases (Value.slice v (joinAll [] G).length cv).ownBlock <;> simp)) hz1,hb1.trans ((hb2.trans (h1.mono hz2)).mono hz1)⟩
     have HFn:=hid hfin
     clear hfin
     go_wp2
     go_ret
     exact HFn.out _ (by exact below_auto)

theorem absorb_len:∀ (l:List RK) (p:RK×List RK),(absorb p l).2.length≤p.2.length+l.length
 | [],p=>Nat.le_refl _
 | x :: l,p=>by
  have h:=absorb_len l (absStep p x)
  have h2:(absStep p x).2.length≤p.2.length+1:=by unfold absStep;split <;> simp
  show (absorb (absStep p x) l).2.length≤_
  simp;omega
theorem insLo_len:∀ (l:List RK) (r:RK),(insLo l r).length=l.length+1
 | [],_=>rfl
 | x :: t,r=>by
  unfold insLo
  split
  ·simp
  ·simp [insLo_len t r]
theorem refStep_len (out:List RK) (r:RK):(refStep out r).length≤out.length+1:=by
 unfold refStep
 rw [insLo_len]
 have:=absorb_len out (r,[])
 simp at this;omega
theorem refAllN_len (l:List RK):∀ out:List RK,(refAllN out l).length≤out.length+l.length:=by
 induction l with
 | nil=>intro out;exact Nat.le_refl _
 | cons x l ih =>
  intro out
  have h1:=ih (refStep out x)
  have h2:=refStep_len out x
  show (refAllN (refStep out x) l).length≤_
  simp;omega

def RK.raw (k:RK):SpanV:=⟨k.lo.bits,k.hi.bits,false,false⟩
theorem own_sat {w:World} {base:Nat} {a:Option Addr} {c:Nat} {l:List RK} (h:w.ownsRow base 150 4 (.slice a l.length c) l.length (sCells l)) (hl:l.length≤5864062014634):SAt w a (l.map RK.raw):=by
 have at0:∀ i,i<l.length→(l.map RK.raw)[i]?.getD default=RK.raw (l[i]?.getD default):=fun i hi=>by simp [List.getElem?_eq_getElem hi]
 refine ⟨?_,fun i hi=>?_,by simp;unfold maxLen;omega⟩
 ·rcases h.2 with ⟨h1,h2⟩|⟨g,cap,cur,h1,_⟩
  ·exact .inl (by rw [List.eq_nil_of_length_eq_zero h2];rfl)
  ·cases h1
   have hcl:=h.cells (g:=g) rfl
   refine .inr ⟨g,0,rfl,(h.lt g rfl).2,fun i hi=>?_⟩
   have hi':i<l.length:=by simpa using hi
   have hx:l[i]? = some (l[i]?.getD default):=by rw [List.getElem?_eq_getElem hi'];rfl
   rw [at0 i hi',Nat.zero_add]
   have at':∀ t v,t<4→(enc (l[i]?.getD default))[t]? = some v→w.cell? ⟨g,i * 4+t,none⟩=some v:=fun t v ht hv=>by rw [←addr0];exact hcl _ v ((flat_get enc_len hx ht).trans hv)
   exact ⟨at' 0 _ (by omega) rfl,at' 1 _ (by omega) rfl,at' 2 _ (by omega) rfl,at' 3 _ (by omega) rfl⟩
 ·have hi':i<l.length:=by simpa using hi
  rw [at0 i hi']
  exact ⟨Key.bits_lt _,Key.bits_lt _⟩

theorem sameSp_iff (x y:SpanV):sameSp x.lo x.hi x.a x.b y.lo y.hi y.a y.b=true↔x=y:=by
 unfold sameSp
 rw [decide_eq_true_eq]
 constructor
 ·rintro ⟨h1,h2,h3,h4⟩
  cases x;cases y
  simp only at h1 h2 h3 h4
  subst h1 h2 h3 h4;rfl
 ·rintro rfl;exact ⟨rfl,rfl,rfl,rfl⟩

def encV (s:SpanV):List Value:=[.float .f64 s.lo,.float .f64 s.hi,.bool s.a,.bool s.b]
theorem encV_len (s:SpanV):(encV s).length=4:=rfl
theorem encV_one (s:SpanV):∀ u∈encV s,u.oneCell'=true:=by intro u hu;simp [encV] at hu;rcases hu with rfl|rfl|rfl|rfl <;> rfl
def vCells (l:List SpanV):List Value:=l.flatMap encV
theorem vCells_len (l:List SpanV):(vCells l).length=l.length * 4:=flat_len encV_len l
theorem sat_cells {w:World} {a:Option Addr} {ss:List SpanV} (h:SAt w a ss) (h0:0<ss.length):∃ b o,a=some ⟨b,o,none⟩∧b<w.heap.size∧∀ j u,(vCells ss)[j]? = some u→w.cell? ((⟨b,o,none⟩:Addr).add j)=some u:=by
 rcases h.row with h1|⟨b,o,rfl,hb,hc⟩
 ·rw [h1] at h0;simp at h0
 ·refine ⟨b,o,rfl,hb,fun j u hu=>?_⟩
  have hj:j<ss.length * 4:=by rw [←vCells_len];exact (List.getElem?_eq_some_iff.1 hu).1
  have hi:j / 4<ss.length:=by omega
  have hx:=sp_some hi
  obtain ⟨c0,c1,c2,c3⟩:=hc (j / 4) hi
  have hg:=flat_get encV_len hx (j:=j % 4) (by omega)
  have hj2:j / 4 * 4+j % 4=j:=by omega
  rw [hj2] at hg
  have hu2:(encV (ss[j / 4]?.getD default))[j % 4]? = some u:=hg.symm.trans hu
  rw [Addr.add_lit]
  have hm:j % 4=0∨j % 4=1∨j % 4=2∨j % 4=3:=by omega
  rcases hm with e|e|e|e <;> rw [e] at hu2 <;> simp only [encV,List.getElem?_cons_zero,List.getElem?_cons_succ,Option.some.injEq] at hu2 <;> subst hu2
  ·rw [←c0];congr 2;omega
  ·rw [←c1];congr 2;omega
  ·rw [←c2];congr 2;omega
  ·rw [←c3];congr 2;omega
theorem own_satV {w:World} {base n:Nat} {a:Option Addr} {c:Nat} {l:List SpanV} (hn:l.length=n) (h:w.ownsRow base 150 4 (.slice a n c) n (vCells l)) (hl:n≤5864062014634) (hlt:∀ i,i<l.length→(l[i]?.getD default).lo<2 ^ 64∧(l[i]?.getD default).hi<2 ^ 64):SAt w a l:=by
 refine ⟨?_,hlt,by unfold maxLen;omega⟩
 rcases h.2 with ⟨h1,h2⟩|⟨g,cap,cur,h1,_⟩
 ·exact .inl (List.eq_nil_of_length_eq_zero (by omega))
 ·cases h1
  have hcl:=h.cells (g:=g) rfl
  refine .inr ⟨g,0,rfl,(h.lt g rfl).2,fun i hi=>?_⟩
  have hx:l[i]? = some (l[i]?.getD default):=by rw [List.getElem?_eq_getElem hi];rfl
  rw [Nat.zero_add]
  have at':∀ t v,t<4→(encV (l[i]?.getD default))[t]? = some v→w.cell? ⟨g,i * 4+t,none⟩=some v:=fun t v ht hv=>by rw [←addr0];exact hcl _ v ((flat_get encV_len hx ht).trans hv)
  exact ⟨at' 0 _ (by omega) rfl,at' 1 _ (by omega) rfl,at' 2 _ (by omega) rfl,at' 3 _ (by omega) rfl⟩

end Go.Proofs.YtdeeoddacnealaaGreat.N