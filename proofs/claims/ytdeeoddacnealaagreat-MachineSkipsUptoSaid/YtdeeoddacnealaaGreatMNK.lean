/- Several texts as one: KP NK KA0. -/
import Derived.Test.YtdeeoddacnealaaGreatMFL
import Derived.Test.YtdeeoddacnealaaGreatMC0
import Derived.Shelf.SlSortCmp.Insertion
import Derived.Test.YtdeeoddacnealaaGreatMV
import Derived.Shelf.GgSortFunc.InsertionK
import Derived.Sort.OwnSorted
import Derived.Test.YtdeeoddacnealaaGreatMR
import Derived.OneCell
import Derived.Deep.CutBlock
import Derived.Lib.AppendZerosOnto
import Derived.WalkSpells
import Derived.Outline
set_option linter.unusedVariables false
namespace Go.Proofs.YtdeeoddacnealaaGreat.K
open Go.RowKit Fl Go.Sort

theorem nan_nan:isNaN nanBits=true:=by decide
theorem cbits_cbits (b:Nat):cbits (cbits b)=cbits b:=by
 cases h:isNaN b
 ·rw [cbits_num h,cbits_key]
 ·rw [cbits_nan h,cbits_nan nan_nan]
theorem codeOf_cbits (b:Nat):codeOf (cbits b)=codeOf b:=by
 cases h:isNaN b
 ·rw [cbits_num h,codeOf_key];simp [codeOf,h]
 ·rw [cbits_nan h];simp [codeOf,h,nan_nan]
theorem cbits_of_code {a b:Nat} (h:codeOf a=codeOf b):cbits a=cbits b:=by
 cases ha:isNaN a <;> cases hb:isNaN b
 ·have e:kcode (kof a)=kcode (kof b):=by simpa [codeOf,ha,hb] using h
  rw [cbits_num ha,cbits_num hb,Key.ext' ((kcode_eq _ _).1 e)]
 ·have e:kcode (kof a)=0:=by simpa [codeOf,ha,hb] using h
  have:=kcode_lo (kof a);omega
 ·have e:0=kcode (kof b):=by simpa [codeOf,ha,hb] using h
  have:=kcode_lo (kof b);omega
 ·rw [cbits_nan ha,cbits_nan hb]
structure CB where
 b:Nat
 ok:cbits b=b
instance:Inhabited CB:=⟨⟨nanBits,cbits_nan nan_nan⟩⟩
def CB.code (x:CB):Int:=codeOf x.b
def cb (b:Nat):CB:=⟨cbits b,cbits_cbits b⟩
theorem cb_code (b:Nat):(cb b).code=codeOf b:=codeOf_cbits b
theorem CB.lt (x:CB):x.b<2 ^ 64:=by rw [←x.ok];exact cbits_lt _
theorem CB.ext' {x y:CB} (h:x.b=y.b):x=y:=by cases x;cases y;simp only at h;subst h;rfl
theorem code_inj {x y:CB} (h:x.code=y.code):x=y:=CB.ext' (by rw [←x.ok,←y.ok];exact cbits_of_code h)
instance:DecidableEq CB:=fun x y=>decidable_of_iff (x.code=y.code) ⟨code_inj,fun h=>by rw [h]⟩

def strictC (l:List CB):Prop:=l.Pairwise fun x y=>x.code<y.code
theorem strict_ext:∀ {l l':List CB},strictC l→strictC l'→(∀ x,x∈l↔x∈l')→l=l'
 | [],[],_,_,_=>rfl
 | [],y :: t',_,_,h=>by have:=(h y).2 (by simp);simp at this
 | x :: t,[],_,_,h=>by have:=(h x).1 (by simp);simp at this
 | x :: t,y :: t',h1,h2,h=>by
  obtain ⟨a1,a2⟩:=List.pairwise_cons.1 h1
  obtain ⟨b1,b2⟩:=List.pairwise_cons.1 h2
  have e:x=y:=by
   rcases List.mem_cons.1 ((h x).1 (by simp)) with e|hx
   ·exact e
   ·rcases List.mem_cons.1 ((h y).2 (by simp)) with e|hy
    ·exact e.symm
    ·have:=a1 y hy;have:=b1 x hx;omega
  subst e
  congr 1
  refine strict_ext a2 b2 fun z=>⟨fun hz=>?_,fun hz=>?_⟩
  ·rcases List.mem_cons.1 ((h z).1 (by simp [hz])) with rfl|h3
   ·have:=a1 _ hz;omega
   ·exact h3
  ·rcases List.mem_cons.1 ((h z).2 (by simp [hz])) with rfl|h3
   ·have:=b1 _ hz;omega
   ·exact h3

def cfC (x y:CB):Int:=cmpI x.code y.code
theorem cfC_lt (x y:CB):ltOf cfC x y=decide (x.code<y.code):=by
 unfold ltOf cfC cmpI
 by_cases h1:x.code<y.code
 ·rw [if_pos h1];simp [h1]
 ·rw [if_neg h1]
  by_cases h2:y.code<x.code
  ·rw [if_pos h2];simp [h1]
  ·rw [if_neg h2];simp [h1]
theorem cfC_swo:SWO (ltOf cfC):=by
 refine ⟨fun x=>?_,fun x y z h1 h2=>?_,fun x y z h1 h2=>?_⟩
 ·rw [cfC_lt];simp
 ·rw [cfC_lt,decide_eq_true_eq] at *;omega
 ·rw [cfC_lt,decide_eq_false_iff_not] at *;omega
theorem cfC_total (x y:CB) (h1:ltOf cfC x y=false) (h2:ltOf cfC y x=false):x=y:=by
 rw [cfC_lt,decide_eq_false_iff_not] at h1 h2
 exact code_inj (by omega)
def sortC (l:List CB):List CB:=l.mergeSort fun x y=>!(ltOf cfC) y x
theorem sortC_len (l:List CB):(sortC l).length=l.length:=List.length_mergeSort _
theorem sortC_mem (l:List CB) (x:CB):x∈sortC l↔x∈l:=List.mem_mergeSort
def risesC (l:List CB):Prop:=l.Pairwise fun x y=>x.code≤y.code
theorem sortC_rises (l:List CB):risesC (sortC l):=by
 have h:=List.pairwise_mergeSort (le:=fun x y=>!(ltOf cfC) y x) (fun a b c h1 h2=>by simp only [cfC_lt,Bool.not_eq_true',decide_eq_false_iff_not] at *;omega) (fun a b=>by simp only [cfC_lt,Bool.or_eq_true,Bool.not_eq_true',decide_eq_false_iff_not];omega) l
 refine h.imp fun {a b} h=>?_
 simp only [cfC_lt,Bool.not_eq_true',decide_eq_false_iff_not] at h
 omega

def dStep (acc:List CB) (x:CB):List CB:=if acc.getLast? = some x then acc else acc++[x]
def dd (l:List CB):List CB:=l.foldl dStep []
theorem dd_take {l:List CB} {i:Nat} {x:CB} (h:l[i]? = some x):dd (l.take (i+1))=dStep (dd (l.take i)) x:=by
 unfold dd
 rw [List.take_add_one,h,List.foldl_append];rfl
theorem dStep_last (acc:List CB) (x:CB):(dStep acc x).getLast? = some x:=by
 unfold dStep
 split
 ·assumption
 ·simp
theorem dd_last {l:List CB} {i:Nat} {x:CB} (h:l[i]? = some x):(dd (l.take (i+1))).getLast? = some x:=by rw [dd_take h];exact dStep_last _ _
theorem dStep_len (acc:List CB) (x:CB):(dStep acc x).length≤acc.length+1:=by unfold dStep;split <;> simp
theorem dd_len (l:List CB):(dd l).length≤l.length:=by
 have key:∀ (l acc:List CB),(l.foldl dStep acc).length≤acc.length+l.length:=by
  intro l
  induction l with
  | nil=>intro acc;exact Nat.le_refl _
  | cons x l ih =>
   intro acc
   have h1:=ih (dStep acc x)
   have h2:=dStep_len acc x
   show (l.foldl dStep (dStep acc x)).length≤_
   simp;omega
 have:=key l []
 simpa [dd] using this
theorem dd_spec:∀ (l acc:List CB),strictC acc→risesC l→(∀ x∈acc,∀ y∈l,x.code≤y.code)→strictC (l.foldl dStep acc)∧∀ x,x∈l.foldl dStep acc↔x∈acc∨x∈l
 | [],acc,hs,_,_=>⟨hs,fun x=>by simp⟩
 | s :: l,acc,hs,hr,hle=>by
  obtain ⟨r1,r2⟩:=List.pairwise_cons.1 hr
  show strictC (l.foldl dStep (dStep acc s))∧∀ x,x∈l.foldl dStep (dStep acc s)↔_
  by_cases hl:acc.getLast? = some s
  ·have e:dStep acc s=acc:=by unfold dStep;rw [if_pos hl]
   rw [e]
   obtain ⟨h1,h2⟩:=dd_spec l acc hs r2 fun x hx y hy=>hle x hx y (by simp [hy])
   refine ⟨h1,fun x=>?_⟩
   rw [h2]
   have:s∈acc:=List.mem_of_getLast? hl
   constructor
   ·rintro (h|h)
    ·exact .inl h
    ·exact .inr (by simp [h])
   ·rintro (h|h)
    ·exact .inl h
    ·rcases List.mem_cons.1 h with rfl|h
     ·exact .inl this
     ·exact .inr h
  ·have e:dStep acc s=acc++[s]:=by unfold dStep;rw [if_neg hl]
   rw [e]
   have hlt:∀ x∈acc,x.code<s.code:=fun x hx=>by
    have h1:=hle x hx s (by simp)
    rcases Int.lt_or_eq_of_le h1 with h|h
    ·exact h
    ·have hxs:=code_inj h
     subst hxs
     exfalso
     rcases List.eq_nil_or_concat acc with h0|⟨p,z,h0⟩
     ·rw [h0] at hx;simp at hx
     ·rw [List.concat_eq_append] at h0
      have h2:z.code≤x.code:=hle z (by rw [h0];simp) x (by simp)
      rw [h0] at hx hs hl
      rcases List.mem_append.1 hx with h3|h3
      ·have:=(List.pairwise_append.1 hs).2.2 x h3 z (by simp);omega
      ·rw [List.mem_singleton.1 h3] at hl;simp at hl
   obtain ⟨h1,h2⟩:=dd_spec l (acc++[s]) (List.pairwise_append.2 ⟨hs,List.pairwise_singleton _ _,fun x hx y hy=>by rw [List.mem_singleton.1 hy];exact hlt x hx⟩) r2 (fun x hx y hy=>by
    rcases List.mem_append.1 hx with h|h
    ·exact hle x h y (by simp [hy])
    ·rw [List.mem_singleton.1 h];exact r1 y hy)
   refine ⟨h1,fun x=>?_⟩
   rw [h2];simp [or_assoc]
def fsort (xs:List Nat):List CB:=dd (sortC (xs.map cb))
theorem fsort_strict (xs:List Nat):strictC (fsort xs):=(dd_spec _ [] List.Pairwise.nil (sortC_rises _) (fun _ h=>by cases h)).1
theorem fsort_mem (xs:List Nat) (x:CB):x∈fsort xs↔∃ b∈xs,cb b=x:=by
 unfold fsort dd
 rw [(dd_spec _ [] List.Pairwise.nil (sortC_rises _) (fun _ h=>by cases h)).2 x,sortC_mem]
 simp

end Go.Proofs.YtdeeoddacnealaaGreat.K
namespace Go.Proofs.YtdeeoddacnealaaGreat
open Go.RowKit Go.Sort

section
variable {α : Type} [Inhabited α] {enc : α → List Value} {k : Nat}
theorem flatK_get (hk:∀ x,(enc x).length=k) (l:List α) (t:Nat) (ht:t<l.length * k):(flatK enc k l.toArray)[t]? = (l.flatMap enc)[t]?:=by
 have h0:0<k:=Nat.pos_of_ne_zero (by rintro rfl;omega)
 have hi:t / k<l.length:=by rw [Nat.div_lt_iff_lt_mul h0];exact ht
 have hm:t % k<k:=Nat.mod_lt _ h0
 have h1:=flat_get hk (List.getElem?_eq_getElem hi) hm
 rw [Nat.mul_comm,Nat.div_add_mod] at h1
 rw [h1]
 have hl:t<(flatK enc k l.toArray).size:=by rw [size_flatK];simpa using ht
 rw [Array.getElem?_eq_getElem hl,←getElem!_pos _ t hl,get_flatK enc k l.toArray t (by simpa using ht)]
 have e1:l.toArray[t / k]! = l[t / k]:=by rw [getElem!_pos _ (t / k) (by simpa using hi)];simp
 rw [e1,getElem!_pos _ (t % k) (by rw [hk];exact hm),List.getElem?_eq_getElem (by rw [hk];exact hm)]

theorem holdsK_of_row (hk:∀ x,(enc x).length=k) {w:World} {g:Nat} {cur:Array Value} {e:TypeId} {l:List α} (hb:w.heap[g]? = some (.cells cur e (0,0))) (ht:cur.toList.take (l.length * k)=l.flatMap enc):HoldsK enc k w g 0 l.toArray:=by
 intro j hj
 have hj':j<l.length * k:=by simpa using hj
 refine ⟨?_,by simp [World.frozen?,hb]⟩
 have h1:(cur.toList.take (l.length * k))[j]? = (l.flatMap enc)[j]?:=by rw [ht]
 rw [List.getElem?_take_of_lt hj',←flatK_get hk l j hj'] at h1
 simp only [World.cell?,hb,Nat.zero_add]
 simp only [Option.isSome_none,Bool.false_eq_true,if_false]
 rw [←Array.getElem?_toList,h1,Array.getElem?_eq_getElem hj,←getElem!_pos _ j hj]
 rfl

theorem heap_sortedK {w:World} {g n:Nat} {os:Array Obj} {cur:Array Value} {e:TypeId} {fr:Nat×Nat} (d:Array α) (hb:w.heap[g]? = some (.cells cur e fr)) :
  (sortWorldK enc k w g 0 n d os).heap[g]? = some (.cells (putCells id 0 (flatK enc k d) cur) e fr):=by
 have hg:g<w.heap.size:=(Array.getElem?_eq_some_iff.1 hb).1
 unfold sortWorldK putRowK
 rw [heap_grow_old _ _ (by simpa using hg)]
 simp [putRow,mapBlock,Sort.ahead,Array.getElem?_modify,hb,onCells]

theorem grownBy_sortedK {w:World} {g n:Nat} {os:Array Obj} (d:Array α):w.grownBy (sortWorldK enc k w g 0 n d os) (some g):=by
 refine ⟨rfl,rfl,rfl,by simp [sortWorldK,putRowK],fun j hj hne=>?_⟩
 unfold sortWorldK putRowK
 rw [heap_grow_old _ _ (by simpa using hj)]
 have:g≠j:=fun e=>hne (by rw [e])
 simp [putRow,mapBlock,Sort.ahead,Array.getElem?_modify,this]

theorem take_putCellsK (hk:∀ x,(enc x).length=k) (cur:Array Value) (ts:List α) (h:ts.length * k≤cur.size):(putCells id 0 (flatK enc k ts.toArray) cur).toList.take (ts.length * k)=ts.flatMap enc:=by
 apply List.ext_getElem?
 intro j
 by_cases hj:j<ts.length * k
 ·rw [List.getElem?_take_of_lt hj,Array.getElem?_toList,←flatK_get hk ts j hj]
  have hs:j<(flatK enc k ts.toArray).size:=by simpa using hj
  rw [Array.getElem?_eq_getElem hs,←getElem!_pos _ j hs]
  have hc:j<cur.size:=by omega
  simp only [putCells,Array.getElem?_mapIdx,Array.getElem?_eq_getElem hc,Option.map_some]
  rw [if_pos ⟨Nat.zero_le _,by omega⟩];rfl
 ·rw [List.getElem?_take_eq_none (by omega),List.getElem?_eq_none (by rw [flat_len hk];omega)]

theorem ownsRow_sortedK (hk:∀ x,(enc x).length=k) {w:World} {base g cap n:Nat} {e:TypeId} {os:Array Obj} {cur:Array Value} {ss ts:List α} (hl:ts.length=ss.length) (hbase:base≤g) (hb:w.heap[g]? = some (.cells cur e (0,0)))
  (h1:ss.length≤cap) (h2:cap≤maxLen) (h3:cur.size=cap * k) :
  (sortWorldK enc k w g 0 n ts.toArray os).ownsRow base e k (.slice (some ⟨g,0,none⟩) ss.length cap) ss.length (ts.flatMap enc) :=
 ⟨by rw [flat_len hk,hl],.inr ⟨g,cap,_,rfl,hbase,heap_sortedK _ hb,h1,h2,by simp [putCells,h3],by rw [←hl];exact take_putCellsK hk cur ts (by rw [h3];exact Nat.mul_le_mul_right _ (by omega))⟩⟩

theorem grown_eq {w w':World} (hos:w'.os=w.os) (ht:w'.tape=w.tape) (ho:w'.output=w.output) (hs:w.heap.size≤w'.heap.size) (hb:∀ j,j<w.heap.size→w'.heap[j]? = w.heap[j]?) (hd:w.drawn≤w'.drawn) :
  ∃ q os',w'=grow (w.drewN q) os':=by
 refine ⟨w'.drawn-w.drawn,w'.heap.extract w.heap.size w'.heap.size,?_⟩
 obtain ⟨h',t',d',o',u'⟩:=w'
 simp only at hos ht ho hs hb hd
 subst hos ht ho
 have hd':w.drawn+(d'-w.drawn)=d':=by omega
 have hh:w.heap++h'.extract w.heap.size h'.size=h':=by
  apply Array.ext_getElem?
  intro j
  by_cases hj:j<w.heap.size
  ·rw [Array.getElem?_append_left hj,hb j hj]
  ·rw [Array.getElem?_append_right (by omega),Array.getElem?_extract]
   by_cases hj2:j<h'.size
   ·rw [if_pos (by omega)];congr 1;omega
   ·rw [if_neg (by omega),Array.getElem?_eq_none (by omega)]
 unfold grow World.drewN
 simp only
 rw [hd',hh]
end
end Go.Proofs.YtdeeoddacnealaaGreat
namespace Go.Proofs.YtdeeoddacnealaaGreat.K
open Go.RowKit Fl Go.Sort

def fCells (xs:List Nat):List Value:=xs.map fun b=>.float .f64 b
theorem fCells_len (xs:List Nat):(fCells xs).length=xs.length:=List.length_map _
theorem floatInfo:(Tryz.prog.info? 57).map (fun i=>(i.zero,i.size,i.bytes))=some (some (.float .f64 0),1,8):=by kernel_rfl
theorem addr0 (g j:Nat):(⟨g,0,none⟩:Addr).add j=⟨g,j,none⟩:=by rw [Addr.add_lit,Nat.zero_add]
theorem grown_of_below {w w':World} (h:Below w.heap.size w w'):w.grownBy w' none:=⟨h.os,h.tape,h.output,h.size,fun k hk _=>h.block k hk⟩
theorem own_le {w:World} {base base' size n:Nat} {e:TypeId} {v:Value} {xs:List Value} (h:w.ownsRow base e size v n xs) (hb:base'≤base):w.ownsRow base' e size v n xs :=
 ⟨h.1,h.2.imp id fun ⟨g,cap,cur,h1,h2,h3⟩=>⟨g,cap,cur,h1,Nat.le_trans hb h2,h3⟩⟩
theorem own_sliceF {w:World} {B n:Nat} {v:Value} {cs:List Value} (h:w.ownsRow B 57 1 v n cs):∃ va vc,v=.slice va n vc:=by
 rcases h.2 with ⟨rfl,h0⟩|⟨g,cap,cur,rfl,_⟩
 ·exact ⟨none,0,by rw [h0]⟩
 ·exact ⟨_,_,rfl⟩
theorem appF {w:World} {base:Nat} {a:Option Addr} {c n:Nat} {xs:List Nat} (b:Nat) (hn:xs.length=n) (hown:w.ownsRow base 57 1 (.slice a n c) n (fCells xs)) (hbase:base≤w.heap.size) (hl:n≤17592186044414) :
  ∃ a' c' w',(∀ ty,(Builtin.append_ #[38,38] ty #[.slice a n c,.slice (some ⟨w.heap.size,0,none⟩) 1 1]).run Tryz.prog (w.alloc (.cells #[.float .f64 b] 57))=.ok (.slice a' (n+1) c') w') ∧
   w'.ownsRow base 57 1 (.slice a' (n+1) c') (n+1) (fCells (xs++[b]))∧Below base w w':=by
 obtain ⟨i0,hi0,hz0,hzs,hzb⟩:=info_parts floatInfo
 have hb1:Below w.heap.size w (w.alloc (.cells #[.float .f64 b] 57)):=by exact below_auto
 have hown1:=hown.kept (grown_of_below hb1) (by cases (Value.slice a n c).ownBlock <;> simp)
 obtain ⟨v',w',hr,h2,h3⟩:=run_append_own2 (P:=Tryz.prog) (w.alloc (.cells #[.float .f64 b] 57)) base 38 57 i0 _ 1 8 Tryz.underlying38 hi0 hz0 hzs hzb rfl (by omega) _ _ _ hown1 ⟨w.heap.size,0,none⟩ 1 1 [.float .f64 b] rfl
  (fun j u hj=>by
   have hrow:(w.alloc (.cells #[.float .f64 b] 57)).heap[w.heap.size]? = some (.cells #[.float .f64 b] 57 (0,0)):=heap_alloc_new w _
   rw [addr0,cell_of_row _ _ j _ _ (0,0) hrow]
   rw [←hj];simp) (by intro u hu;rw [List.mem_singleton.1 hu];rfl) (by omega) (by unfold maxLen;omega) (by omega) (by simp;omega)
 have hc:fCells xs++[.float .f64 b]=fCells (xs++[b]):=by simp [fCells]
 rw [hc] at h2
 obtain ⟨a',c',rfl⟩:=own_sliceF h2
 exact ⟨a',c',w',hr,h2,(hb1.mono hbase).grown h3.1 (by simp;omega) (fun k hk=>(hown.lt k hk).1)⟩
theorem own_fat {w:World} {base n:Nat} {a:Option Addr} {c:Nat} {xs:List Nat} (hn:xs.length=n) (h:w.ownsRow base 57 1 (.slice a n c) n (fCells xs)) (hl:n≤17592186044416) (hlt:∀ x∈xs,x<2 ^ 64):FAt w a xs:=by
 refine ⟨?_,fun i hi=>?_,by unfold maxLen;omega⟩
 ·rcases h.2 with ⟨h1,h2⟩|⟨g,cap,cur,h1,_⟩
  ·exact .inl (List.eq_nil_of_length_eq_zero (by omega))
  ·cases h1
   refine .inr ⟨g,0,rfl,(h.lt g rfl).2,fun i hi=>?_⟩
   have:=h.cells (g:=g) rfl i (.float .f64 (xs[i]?.getD 0)) (by unfold fCells;rw [List.getElem?_map,fl_some hi];rfl)
   rw [addr0] at this
   rw [Nat.zero_add];exact this
 ·rw [List.getElem?_eq_getElem hi]
  exact hlt _ (List.getElem_mem hi)

def bits (l:List CB):List Nat:=l.map CB.b
theorem bits_len (l:List CB):(bits l).length=l.length:=List.length_map _
theorem fCells_bits (l:List CB):fCells (bits l)=l.map fun x=>.float .f64 x.b:=by simp [fCells,bits]
theorem bits_lt (l:List CB):∀ x∈bits l,x<2 ^ 64:=by
 intro x hx
 obtain ⟨y,_,rfl⟩:=List.mem_map.1 hx
 exact y.lt
theorem set1 {w:World} {g i:Nat} {T:TypeId} {cur:Array Value} (h:w.heap[g]? = some (.cells cur T (0,0))) (v:Value):(w.setCell ⟨g,i,none⟩ v).heap[g]? = some (.cells (cur.setIfInBounds i v) T (0,0))∧w.grownBy (w.setCell ⟨g,i,none⟩ v) (some g):=by
 rw [setCell_eq_setRow w g i _ _ _ _ h]
 exact ⟨setRow_heap w g cur _ T (0,0) h,grownBy_setRow w g _⟩
theorem set6 {w:World} {g:Nat} {T:TypeId} {a0 a1 a2 a3 a4 a5:Value} (h:w.heap[g]? = some (.cells #[a0,a1,a2,a3,a4,a5] T (0,0))) (v0 v1 v2 v3 v4 v5:Value) :
  ((((((w.setCell ⟨g,0,none⟩ v0).setCell ⟨g,1,none⟩ v1).setCell ⟨g,2,none⟩ v2).setCell ⟨g,3,none⟩ v3).setCell ⟨g,4,none⟩ v4).setCell ⟨g,5,none⟩ v5).heap[g]? = some (.cells #[v0,v1,v2,v3,v4,v5] T (0,0)) ∧
  w.grownBy ((((((w.setCell ⟨g,0,none⟩ v0).setCell ⟨g,1,none⟩ v1).setCell ⟨g,2,none⟩ v2).setCell ⟨g,3,none⟩ v3).setCell ⟨g,4,none⟩ v4).setCell ⟨g,5,none⟩ v5) (some g):=by
 rw [setCell_eq_setRow w g 0 _ _ _ _ h]
 have h1:=setRow_heap w g _ (#[a0,a1,a2,a3,a4,a5].setIfInBounds 0 v0) T (0,0) h
 rw [setCell_eq_setRow _ g 1 _ _ _ _ h1]
 have h2:=setRow_heap _ g _ ((#[a0,a1,a2,a3,a4,a5].setIfInBounds 0 v0).setIfInBounds 1 v1) T (0,0) h1
 rw [setCell_eq_setRow _ g 2 _ _ _ _ h2]
 have h3:=setRow_heap _ g _ (((#[a0,a1,a2,a3,a4,a5].setIfInBounds 0 v0).setIfInBounds 1 v1).setIfInBounds 2 v2) T (0,0) h2
 rw [setCell_eq_setRow _ g 3 _ _ _ _ h3]
 have h4:=setRow_heap _ g _ ((((#[a0,a1,a2,a3,a4,a5].setIfInBounds 0 v0).setIfInBounds 1 v1).setIfInBounds 2 v2).setIfInBounds 3 v3) T (0,0) h3
 rw [setCell_eq_setRow _ g 4 _ _ _ _ h4]
 have h5:=setRow_heap _ g _ (((((#[a0,a1,a2,a3,a4,a5].setIfInBounds 0 v0).setIfInBounds 1 v1).setIfInBounds 2 v2).setIfInBounds 3 v3).setIfInBounds 4 v4) T (0,0) h4
 rw [setCell_eq_setRow _ g 5 _ _ _ _ h5]
 have h6:=setRow_heap _ g _ ((((((#[a0,a1,a2,a3,a4,a5].setIfInBounds 0 v0).setIfInBounds 1 v1).setIfInBounds 2 v2).setIfInBounds 3 v3).setIfInBounds 4 v4).setIfInBounds 5 v5) T (0,0) h5
 refine ⟨h6.trans (by simp),?_⟩
 exact (((grownBy_setRow w g _).trans (grownBy_setRow _ g _)).trans ((grownBy_setRow _ g _).trans (grownBy_setRow _ g _))).trans ((grownBy_setRow _ g _).trans (grownBy_setRow _ g _))

end Go.Proofs.YtdeeoddacnealaaGreat.K