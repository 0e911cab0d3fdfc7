/- Several texts as one: KA KB KS. -/
import Derived.Test.YtdeeoddacnealaaGreatMNK
import Derived.Test.YtdeeoddacnealaaGreatMR
import Derived.Test.YtdeeoddacnealaaGreatLayFl
import Derived.Shelf.SlSortCmp.NoneTotal
import Derived.OneCell
import Derived.Test.YtdeeoddacnealaaGreatMV
import Derived.Deep.CutBlock
set_option linter.unusedVariables false
namespace Go.Proofs.YtdeeoddacnealaaGreat.K
open Go.RowKit Fl Go.Sort

section
variable {α : Type} [Inhabited α] {enc : α → Value}
theorem holds_of_row1 {w:World} {g:Nat} {cur:Array Value} {e:TypeId} {l:List α} (hb:w.heap[g]? = some (.cells cur e (0,0))) (ht:cur.toList.take l.length=l.map enc):Holds enc w g 0 l.toArray:=by
 intro j hj
 have hj':j<l.length:=by simpa using hj
 refine ⟨?_,by simp [World.frozen?,hb]⟩
 have h1:(cur.toList.take l.length)[j]? = (l.map enc)[j]?:=by rw [ht]
 rw [List.getElem?_take_of_lt hj'] at h1
 simp only [World.cell?,hb,Nat.zero_add]
 simp only [Option.isSome_none,Bool.false_eq_true,if_false]
 rw [←Array.getElem?_toList,h1]
 simp [hj']
theorem heap_sorted1 {w:World} {g n:Nat} {os:Array Obj} {cur:Array Value} {e:TypeId} {fr:Nat×Nat} (d:Array α) (hb:w.heap[g]? = some (.cells cur e fr)) :
  (sortWorld enc w g 0 n d os).heap[g]? = some (.cells (putCells enc 0 d cur) e fr):=by
 have hg:g<w.heap.size:=(Array.getElem?_eq_some_iff.1 hb).1
 unfold sortWorld
 rw [heap_grow_old _ _ (by simpa using hg)]
 simp [putRow,mapBlock,Sort.ahead,Array.getElem?_modify,hb,onCells]
theorem grownBy_sorted1 {w:World} {g n:Nat} {os:Array Obj} (d:Array α):w.grownBy (sortWorld enc w g 0 n d os) (some g):=by
 refine ⟨rfl,rfl,rfl,by simp [sortWorld],fun k hk hne=>?_⟩
 unfold sortWorld
 rw [heap_grow_old _ _ (by simpa using hk)]
 have:g≠k:=fun e=>hne (by rw [e])
 simp [putRow,mapBlock,Sort.ahead,Array.getElem?_modify,this]
theorem take_putCells1 (cur:Array Value) (ts:List α) (h:ts.length≤cur.size):(putCells enc 0 ts.toArray cur).toList.take ts.length=ts.map enc:=by
 apply List.ext_getElem?
 intro j
 by_cases hj:j<ts.length
 ·rw [List.getElem?_take_of_lt hj,Array.getElem?_toList]
  simp [putCells,hj,show j<cur.size by omega]
 ·rw [List.getElem?_take_eq_none (by omega),List.getElem?_eq_none (by simp;omega)]
end

theorem cmpF_lays (blk off size:Nat) (w:World):CmpLays1 Tryz.prog 214 #[] (fun x:CB=>.float .f64 x.b) cfC blk off size w:=fun m os dk _ x y =>
 (floCmp_any x.b y.b x.lt y.lt _).mono fun e w' ⟨h1,h2⟩=>⟨h1,0,#[],by rw [←h2,grow_empty];rfl⟩
theorem cmpF_enters:∀ args w,(callFunc 214 args).run Tryz.prog w=.ok (.enter 214 args) w:=enters_of Tryz.func214 (by kernel_rfl) rfl
theorem sort_floats (w:World) (base:Nat) (a:Option Addr) (c n:Nat) (l:List CB) (hn:l.length=n) (hown:w.ownsRow base 57 1 (.slice a n c) n (fCells (bits l))) (hl:n<4611686018427387904) :
  Calls Tryz.prog 222 #[.slice a n c,.func (.func 214) #[] #[]] w fun e w'=>e=.returned (.tuple #[]) ∧
   w'.ownsRow base 57 1 (.slice a n c) n (fCells (bits (sortC l)))∧w.grownBy w' (Value.slice a n c).ownBlock:=by
 subst hn
 by_cases h0:l.length=0
 ·have hl0:l=[]:=List.eq_nil_of_length_eq_zero h0
  subst hl0
  refine (AnyF.slices_SortFunc_none (P:=Tryz.prog) (ρ:=sortFl_ren) { sortFl with } a c (.func (.func 214) #[] #[]) w).mono fun e w' ⟨h1,h2⟩=>?_
  subst h2
  exact ⟨h1,by rw [show sortC []=[] from List.eq_nil_of_length_eq_zero (sortC_len [])];exact hown,⟨rfl,rfl,rfl,Nat.le_refl _,fun _ _ _=>rfl⟩⟩
 ·rcases hown.2 with ⟨h1,h2⟩|⟨g,cap,cur,h1,hbase,hb,hnc,hcm,hcs,htake⟩
  ·omega
  ·cases h1
   rw [fCells_bits,Nat.mul_one] at htake
   have h:=Any.slices_SortFunc_total sortFl (fun x:CB=>Value.float .f64 x.b) (fun x=>rfl) cfC cfC_swo 214 #[] g 0 c l.toArray w cmpF_enters (cmpF_lays g 0 _ w) (holds_of_row1 hb htake) (Array.getElem?_eq_some_iff.1 hb).1 (by simpa using hl) cfC_total
   rw [show l.toArray.size=l.length from List.size_toArray] at h
   refine h.mono fun e w' ⟨h1,n,os,h2⟩=>?_
   subst h2
   refine ⟨h1,⟨by rw [fCells_len,bits_len,sortC_len,Nat.mul_one],.inr ⟨g,c,_,rfl,hbase,heap_sorted1 _ hb,hnc,hcm,by simp [putCells,hcs],?_⟩⟩,grownBy_sorted1 _⟩
   rw [fCells_bits,Nat.mul_one,←sortC_len l]
   exact take_putCells1 cur (sortC l) (by rw [sortC_len,hcs];omega)
open Go.RowKit Fl

theorem eqC_any (x y:CB) (b:Bool) (hb:decide (x=y)=b) (w:World) :
  Calls Tryz.prog 224 #[.float .f64 x.b,.float .f64 y.b] w (Ret (.bool b) w):=by
 have H:=fun W=>floCmp_any x.b y.b x.lt y.lt W
 have h2:((cmpI (codeOf x.b) (codeOf y.b)) == (0:Int))=b:=by
  rw [←hb]
  unfold cmpI
  have h3:decide (x=y)=decide (x.code=y.code):=decide_eq_decide.2 ⟨fun h=>by rw [h],code_inj⟩
  rw [h3]
  unfold CB.code
  by_cases h1:codeOf x.b<codeOf y.b
  ·rw [if_pos h1];simp;omega
  ·rw [if_neg h1]
   by_cases h2:codeOf y.b<codeOf x.b
   ·rw [if_pos h2];simp;omega
   ·rw [if_neg h2];simp;omega
 generalize cmpI (codeOf x.b) (codeOf y.b)=v at *
 clear hb
 go_enter Tryz.func224,Tryz.ntmps224
 go_wp2_with (go_at_call 214;(with_reducible refine (H _).mono ?_);rintro e w' ⟨rfl,rfl⟩)
 go_ret
 exact ⟨rfl,by exact below_auto⟩

structure CMid (w W:World) (g:Nat) (cur:Array Value) (l:List CB) (i t:Nat):Prop where
 grown:w.grownBy W (some g)
 at':i=(dd (l.take t)).length
 lt:i<t
 row:∃ cur':Array Value,W.heap[g]? = some (.cells cur' 57 (0,0))∧cur'.size=cur.size∧cur'.toList.take i=fCells (bits (dd (l.take t)))∧cur'.toList.drop (t-1)=cur.toList.drop (t-1)
theorem CMid.below {w W W':World} {g:Nat} {cur:Array Value} {l:List CB} {i t:Nat} (h:CMid w W g cur l i t) (hb:Below W.heap.size W W'):CMid w W' g cur l i t:=by
 obtain ⟨cur',q1,q2⟩:=h.row
 refine ⟨⟨hb.os.trans h.grown.os,hb.tape.trans h.grown.tape,hb.output.trans h.grown.output,Nat.le_trans h.grown.size hb.size,fun k hk hne=>(hb.block k (Nat.lt_of_lt_of_le hk h.grown.size)).trans (h.grown.block k hk hne)⟩,h.at',h.lt,cur',(hb.block g (Array.getElem?_eq_some_iff.1 q1).1).trans q1,q2⟩
theorem CMid.skip {w W:World} {g:Nat} {cur:Array Value} {l:List CB} {i t:Nat} {x:CB} (h:CMid w W g cur l i t) (hx:l[t]? = some x) (hp:l[t-1]? = some x) (ht:0<t):CMid w W g cur l i (t+1):=by
 have e:dd (l.take (t+1))=dd (l.take t):=by
  rw [dd_take hx]
  unfold dStep
  have h1:=dd_last hp
  rw [show t-1+1=t by omega] at h1
  rw [if_pos h1]
 obtain ⟨cur',q1,q2,q3,q4⟩:=h.row
 refine ⟨h.grown,by rw [e];exact h.at',by have:=h.lt;omega,cur',q1,q2,by rw [e];exact q3,?_⟩
 have h1:(cur'.toList.drop (t-1)).drop 1=(cur.toList.drop (t-1)).drop 1:=by rw [q4]
 rw [List.drop_drop,List.drop_drop] at h1
 rw [show t+1-1=t-1+1 by omega];exact h1
theorem CMid.keep {w W:World} {g:Nat} {cur:Array Value} {l:List CB} {i t:Nat} {x y:CB} (h:CMid w W g cur l i t) (hx:l[t]? = some x) (hp:l[t-1]? = some y) (hne:x≠y) (ht:0<t) (hg:cur.size ≥ t):CMid w (W.setCell ⟨g,i,none⟩ (.float .f64 x.b)) g cur l (i+1) (t+1):=by
 have e:dd (l.take (t+1))=dd (l.take t)++[x]:=by
  rw [dd_take hx]
  unfold dStep
  have h1:=dd_last hp
  rw [show t-1+1=t by omega] at h1
  rw [h1,if_neg (by intro h;exact hne (Option.some.inj h).symm)]
 obtain ⟨cur',q1,q2,q3,q4⟩:=h.row
 have hlt:=h.lt
 rw [setCell_eq_setRow W g i _ _ _ _ q1]
 have hgr:=grownBy_setRow W g (cur'.setIfInBounds i (.float .f64 x.b))
 refine ⟨⟨hgr.os.trans h.grown.os,hgr.tape.trans h.grown.tape,hgr.output.trans h.grown.output,Nat.le_trans h.grown.size hgr.size,fun k hk hne=>(hgr.block k (Nat.lt_of_lt_of_le hk h.grown.size) hne).trans (h.grown.block k hk hne)⟩,by rw [e,List.length_append,←h.at'];rfl,by omega,_,setRow_heap W g cur' _ _ _ q1,by simpa using q2,?_,?_⟩
 ·rw [e]
  have hl:(fCells (bits (dd (l.take t)))).length=i:=by rw [fCells_len,bits_len,←h.at']
  have:fCells (bits (dd (l.take t)++[x]))=fCells (bits (dd (l.take t)))++[.float .f64 x.b]:=by simp [fCells,bits]
  rw [this,←q3,Array.toList_setIfInBounds,List.take_add_one,List.take_set_of_le (by omega),List.getElem?_set_self (by rw [Array.length_toList];omega)]
  rfl
 ·rw [Array.toList_setIfInBounds,show t+1-1=t-1+1 by omega,List.drop_set_of_lt (by omega)]
  have h1:(cur'.toList.drop (t-1)).drop 1=(cur.toList.drop (t-1)).drop 1:=by rw [q4]
  rw [List.drop_drop,List.drop_drop] at h1
  exact h1

theorem dd_short {l:List CB} (h:l.length<2):dd l=l:=by
 match l,h with
 | [],_=>rfl
 | [x],_=>rfl
def CompRet (w:World) (g c:Nat) (cur:Array Value) (l:List CB) (e:Ending) (W:World):Prop :=
 e=.returned (.slice (some ⟨g,0,none⟩) (dd l).length c)∧w.grownBy W (some g)∧∃ cur':Array Value,W.heap[g]? = some (.cells cur' 57 (0,0))∧cur'.size=cur.size∧cur'.toList.take (dd l).length=fCells (bits (dd l))
theorem grown_row {w W:World} {g:Nat} (h:w.grownBy W none):w.grownBy W (some g):=⟨h.os,h.tape,h.output,h.size,fun k hk _=>h.block k hk (by simp)⟩

set_option maxHeartbeats 1000000 in
set_option maxRecDepth 100000 in
theorem compact_any (g c n:Nat) (l:List CB) (cur:Array Value) (w:World) (hn:l.length=n) (hg:w.heap[g]? = some (.cells cur 57 (0,0))) (hnc:n≤c) (hcm:c≤maxLen) (hcs:cur.size=c) (htake:cur.toList.take n=fCells (bits l)) :
  Calls Tryz.prog 223 #[.slice (some ⟨g,0,none⟩) n c,.func (.func 224) #[] #[]] w (CompRet w g c cur l):=by
 unfold maxLen at hcm
 have hgl:g<w.heap.size:=(Array.getElem?_eq_some_iff.1 hg).1
 have Hsame:Hid (∀ W,Below w.heap.size w W→dd l=l→CompRet w g c cur l (.returned (.slice (some ⟨g,0,none⟩) n c)) W):=hid fun W hb hdd=>by
  unfold CompRet
  rw [hdd,hn]
  exact ⟨rfl,grown_row (grown_of_below hb),cur,(hb.block g hgl).trans hg,rfl,htake⟩
 have HN:=hid hn
 have cell:Hid (∀ i,i<n→w.cell? ⟨g,i,none⟩=some (.float .f64 (l[i]?.getD default).b)):=hid fun i hi=>by
  have h1:(cur.toList.take n)[i]? = (fCells (bits l))[i]?:=by rw [htake]
  rw [List.getElem?_take_of_lt hi,Array.getElem?_toList] at h1
  rw [cell_of_row w g i cur _ (0,0) hg,h1,fCells_bits,List.getElem?_map,List.getElem?_eq_getElem (by rw [hn];exact hi)];rfl
 by_cases h2:n<2
 ·have h2':(n:Int)<2:=by omega
  have Hdd:Hid (dd l=l):=hid (dd_short (by rw [hn];exact h2))
  clear hn htake hg
  go_enter Tryz.func223,Tryz.ntmps223
  go_wp2
  go_ret
  exact Hsame.out _ (by exact below_auto) Hdd.out
 ·have h2':¬(n:Int)<2:=by omega
  have HG:=hid hg;have HTK:=hid htake;have HCS:=hid hcs
  clear hn hg htake hcs
  go_enter Tryz.func223,Tryz.ntmps223
  go_wp2
  go_loopw [5] (fun kv wr=>∃ k:Nat,1≤k∧k≤n∧kv=.int .i64 k∧Hid (dd (l.take k)=l.take k)∧Below w.heap.size w wr) (fun kv _=>n-(intOf kv).toNat)
  case atStart=>exact ⟨1,Nat.le_refl _,by omega,rfl,hid (dd_short (by rw [List.length_take];omega)),Below.refl _ _⟩
  case round =>
   obtain ⟨k,hk1,hkn,rfl,HD,hb⟩:=hrel
   have hz:=hb.size
   by_cases hlt:k<n
   ·have hlt':(k:Int)<(n:Int):=by omega
    have hx:l[k]? = some (l[k]?.getD default):=by rw [List.getElem?_eq_getElem (by rw [HN.out];omega)];rfl
    have hy:l[k-1]? = some (l[k-1]?.getD default):=by rw [List.getElem?_eq_getElem (by rw [HN.out];omega)];rfl
    have d0:=(hb.cell (p:=⟨g,_,none⟩) hgl).trans (cell.out k hlt)
    have d1:=(hb.cell (p:=⟨g,_,none⟩) hgl).trans (cell.out (k-1) (by omega))
    have hsub:(k:Int)-1=((k-1:Nat):Int):=by omega
    have hsub2:((k-1:Nat):Int)<(n:Int):=by omega
    have hsub3:(0:Int)≤((k-1:Nat):Int):=by omega
    have hgw:g<wr.heap.size:=by omega
    have hstep:=dd_take hx
    have hlast:(dd (l.take k)).getLast? = some (l[k-1]?.getD default):=by
     have:=dd_last hy
     rw [show k-1+1=k by omega] at this;exact this
    rw [HD.out] at hstep hlast
    have htk:l.take (k+1)=l.take k++[l[k]?.getD default]:=by rw [List.take_add_one,hx];rfl
    generalize l[k]?.getD default=x at *
    generalize l[k-1]?.getD default=y at *
    cases hq:decide (x=y)
    ·have hne:x≠y:=by simpa using hq
     have HD2:Hid (dd (l.take (k+1))=l.take (k+1)):=hid (by
      rw [hstep,htk];unfold dStep;rw [hlast,if_neg (by intro h;exact hne (Option.some.inj h).symm)])
     have HE:=fun W=>eqC_any x y false hq W
     clear hstep hlast htk hx hy hq hne
     go_wp2_with fail
     (refine wp_region_ext (by kernel_rfl) (by kernel_rfl) ?_;(repeat (go_big_quiet_step (first|(go_at_call 224;with_reducible exact Calls.ext_of (HE _)))));refine mX ?_;intro w2 hb2 hc2 hf2 hz2;intros;(try have hu2_wr_0:wr.heap.size<w2.heap.size:=by omega);(try have hu2_wr_1:wr.heap.size+1<w2.heap.size:=by omega))
     go_wp2_with fail
     go_roundw
     case rel=>exact ⟨k+1,by omega,by omega,by go_num,HD2,by exact below_auto⟩
     case measure=>simp [intOf];omega
    ·obtain rfl:x=y:=by simpa using hq
     have HE:=fun W=>eqC_any x x true hq W
     obtain ⟨m,hm⟩:∃ m,n-k=m:=⟨_,rfl⟩
     obtain ⟨mc,hmc⟩:∃ m,c-k=m:=⟨_,rfl⟩
     have hmn:(n:Int)-(k:Int)=(m:Int):=by omega
     have hdd1:dd (l.take (k+1))=l.take k:=by rw [hstep];unfold dStep;rw [hlast,if_pos rfl]
     have Hmid:Hid (∀ W,Below wr.heap.size wr W→CMid w W g cur l k (k+1)):=hid fun W hW=>by
      have hbW:=hb.trans (hW.mono hz)
      have hlk:(l.take k).length=k:=by rw [List.length_take,HN.out];omega
      refine ⟨grown_row (grown_of_below hbW),by rw [hdd1,hlk],by omega,cur,(hbW.block g hgl).trans HG.out,rfl,?_,rfl⟩
      rw [hdd1]
      have h1:(cur.toList.take n).take k=(fCells (bits l)).take k:=by rw [HTK.out]
      rw [List.take_take,Nat.min_eq_left hkn] at h1
      rw [h1,fCells_bits,fCells_bits,List.map_take]
     clear htk hstep hlast hx hy hq hdd1
     have hck:¬(c=k):=by omega
     go_wp2_with fail
     (refine wp_region_ext (by kernel_rfl) (by kernel_rfl) ?_;(repeat (go_big_quiet_step (first|(go_at_call 224;with_reducible exact Calls.ext_of (HE _)))));refine mX ?_;intro w2 hb2 hc2 hf2 hz2;intros;(try have hu2_wr_0:wr.heap.size<w2.heap.size:=by omega);(try have hu2_wr_1:wr.heap.size+1<w2.heap.size:=by omega))
     go_wp2_with fail
     go_loopw [7,5] (fun qv kv W=>∃ q i:Nat,1≤q∧q≤m∧qv=.int .i64 q∧kv=.int .i64 i∧CMid w W g cur l i (k+q)) (fun qv _ _=>m-(intOf qv).toNat)
     case atStart=>exact ⟨1,k,Nat.le_refl _,by omega,rfl,rfl,Hmid.out _ (by exact below_auto)⟩
     case round =>
      obtain ⟨q,i,hq1,hqm,rfl,rfl,hd⟩:=hrel
      obtain ⟨cur',q1,q2,q3,q4⟩:=hd.row
      have hit:=hd.lt
      have hat:=hd.at'
      have hgr:=hd.grown
      have hgw2:=(Array.getElem?_eq_some_iff.1 q1).1
      have fz:∀ j,wr.frozen? ⟨g,j,none⟩=false:=fun j=>by simp [World.frozen?,q1]
      by_cases hlq:q<m
      ·have hlq':(q:Int)<(m:Int):=by omega
       have cc:∀ j,k+q-1≤j→j<n→wr.cell? ⟨g,j,none⟩=some (.float .f64 (l[j]?.getD default).b):=fun j h1 h2=>by
        rw [cell_of_row wr g j cur' _ (0,0) q1]
        have h3:(cur'.toList.drop (k+q-1))[j-(k+q-1)]? = (cur.toList.drop (k+q-1))[j-(k+q-1)]?:=by rw [q4]
        rw [List.getElem?_drop,List.getElem?_drop,show k+q-1+(j-(k+q-1))=j by omega,Array.getElem?_toList] at h3
        rw [h3]
        have h4:(cur.toList.take n)[j]? = (fCells (bits l))[j]?:=by rw [HTK.out]
        rw [List.getElem?_take_of_lt h2] at h4
        rw [h4,fCells_bits,List.getElem?_map,List.getElem?_eq_getElem (by rw [HN.out];exact h2)];rfl
       have e0:=cc (k+q) (by omega) (by omega)
       have e1:wr.cell? ⟨g,k+(q-1),none⟩=some (.float .f64 (l[k+q-1]?.getD default).b):=by
        rw [show k+(q-1)=k+q-1 by omega];exact cc _ (Nat.le_refl _) (by omega)
       have hx:l[k+q]? = some (l[k+q]?.getD default):=by rw [List.getElem?_eq_getElem (by rw [HN.out];omega)];rfl
       have hy:l[k+q-1]? = some (l[k+q-1]?.getD default):=by rw [List.getElem?_eq_getElem (by rw [HN.out];omega)];rfl
       have ws:(wr.cell? ⟨g,i,none⟩).isSome=true:=by rw [cell_of_row wr g i cur' _ (0,0) q1,Array.getElem?_eq_getElem (by rw [q2,HCS.out];omega)];rfl
       obtain ⟨z0,ws'⟩:=Option.isSome_iff_exists.1 ws
       have fz0:=fz i
       have hti:(i:Int)<(n:Int):=by omega
       have hsb:(q:Int)-1=((q-1:Nat):Int):=by omega
       have hsb2:((q-1:Nat):Int)<(m:Int):=by omega
       have hsb3:(0:Int)≤((q-1:Nat):Int):=by omega
       generalize hz1:l[k+q]?.getD default=x1 at *
       generalize hz2:l[k+q-1]?.getD default=y1 at *
       have hd2:=hid hd
       have hkq:k+q≤cur.size:=by rw [HCS.out];omega
       clear cc fz ws q1 q2 q3 q4 hd hat hgr
       cases hq2:decide (x1=y1)
       ·have hne:x1≠y1:=by simpa using hq2
        have HE2:=fun W=>eqC_any x1 y1 false hq2 W
        have HK:Hid (∀ W,Below wr.heap.size wr W→CMid w (W.setCell ⟨g,i,none⟩ (.float .f64 x1.b)) g cur l (i+1) (k+(q+1))):=hid fun W hW=>(hd2.out.below hW).keep hx hy hne (by omega) hkq
        clear hx hy hne hq2 hz1 hz2
        go_wp2_with fail
        (refine wp_region_ext (by kernel_rfl) (by kernel_rfl) ?_;(repeat (go_big_quiet_step (first|(go_at_call 224;with_reducible exact Calls.ext_of (HE2 _)))));refine mX ?_;intro w3 hb3 hc3 hf3 hz3;intros;(try have hu3_wr_0:wr.heap.size<w3.heap.size:=by omega);(try have hu3_wr_1:wr.heap.size+1<w3.heap.size:=by omega))
        go_wp2_with fail
        go_roundw
        case rel=>exact ⟨q+1,i+1,by omega,by omega,by go_num,by go_num,HK.out _ (by exact below_auto)⟩
        case measure=>simp [intOf];omega
       ·obtain rfl:x1=y1:=by simpa using hq2
        have HE2:=fun W=>eqC_any x1 x1 true hq2 W
        have HK:Hid (∀ W,Below wr.heap.size wr W→CMid w W g cur l i (k+(q+1))):=hid fun W hW=>(hd2.out.below hW).skip hx hy (by omega)
        clear hx hy hq2 hz1 hz2
        go_wp2_with fail
        (refine wp_region_ext (by kernel_rfl) (by kernel_rfl) ?_;(repeat (go_big_quiet_step (first|(go_at_call 224;with_reducible exact Calls.ext_of (HE2 _)))));refine mX ?_;intro w3 hb3 hc3 hf3 hz3;intros;(try have hu3_wr_0:wr.heap.size<w3.heap.size:=by omega);(try have hu3_wr_1:wr.heap.size+1<w3.heap.size:=by omega))
        go_wp2_with fail
        go_roundw
        case rel=>exact ⟨q+1,i,by omega,by omega,by go_num,rfl,HK.out _ (by exact below_auto)⟩
        case measure=>simp [intOf];omega
      ·obtain rfl:q=m:=by omega
       have hkm:k+q=n:=by omega
       have hln:l.take (k+q)=l:=by rw [hkm,←HN.out,List.take_length]
       rw [hln] at q3 hat
       have hclr:=run_clear_row (P:=Tryz.prog) wr 38 57 (.float .f64 0) 1 Tryz.underlying38 Tryz.zeroValue57 rfl (by intro u hu;simp [Value.cells] at hu;subst hu;rfl) g i (n-i) (c-i) cur' _ q1 (by omega) (by rw [q2,HCS.out];omega)
       obtain ⟨R,hR⟩:∃ R:Array Value,R=(cur'.toList.take i++(Builtin.zeroCells (Value.float .f64 0).cells (n-i)).toList++cur'.toList.drop (i+(n-i) * 1)).toArray:=⟨_,rfl⟩
       rw [←hR] at hclr
       have fin:CompRet w g c cur l (.returned (.slice (some ⟨g,0,none⟩) i c)) (wr.setRow g R):=by
        have hzl:(Builtin.zeroCells (Value.float .f64 0).cells (n-i)).toList.length=(n-i) * 1:=by rw [Array.length_toList,size_zeroCells];rfl
        have hgs:=grownBy_setRow wr g R
        refine ⟨by rw [←hat],⟨hgs.os.trans hgr.os,hgs.tape.trans hgr.tape,hgs.output.trans hgr.output,Nat.le_trans hgr.size hgs.size,fun j hj hne=>(hgs.block j (Nat.lt_of_lt_of_le hj hgr.size) hne).trans (hgr.block j hj hne)⟩,R,setRow_heap wr g cur' _ _ _ q1,?_,?_⟩
        ·rw [hR];simp only [List.size_toArray,List.length_append,List.length_take,List.length_drop,hzl,Array.length_toList,q2,HCS.out];omega
        ·rw [hR,←hat]
         simp only [List.append_assoc]
         have hl:(cur'.toList.take i).length=i:=by rw [List.length_take,Array.length_toList,q2,HCS.out];omega
         rw [List.take_append_of_le_length (by omega),List.take_take,Nat.min_self,q3]
       have hfin:=hid fin
       have hci:¬(c=i):=by omega
       have hti:i≤n:=by omega
       have hti2:(i:Int)≤(n:Int):=by omega
       clear fin hR q1 q2 q3 q4 hd hat fz
       go_wp2
       go_ret
       exact hfin.out
   ·obtain rfl:k=n:=by omega
    have Hdd:Hid (dd l=l):=hid (by have:=HD.out;rwa [show l.take k=l by rw [←HN.out,List.take_length]] at this)
    go_wp2
    go_ret
    exact Hsame.out _ (by exact below_auto) Hdd.out

theorem bits_cb (xs:List Nat):bits (xs.map cb)=xs.map cbits:=by
 unfold bits
 rw [List.map_map];rfl
theorem fsort_len (xs:List Nat):(fsort xs).length≤xs.length:=by
 have:=dd_len (sortC (xs.map cb))
 rw [sortC_len,List.length_map] at this
 exact this
def FRet (w:World) (l:List CB) (e:Ending) (w':World):Prop :=
 ∃ a c,e=.returned (.slice a l.length c)∧w'.ownsRow w.heap.size 57 1 (.slice a l.length c) l.length (fCells (bits l))∧Below w.heap.size w w'
theorem FRet.fat {w w':World} {l:List CB} {a:Option Addr} {c:Nat} (h:w'.ownsRow w.heap.size 57 1 (.slice a l.length c) l.length (fCells (bits l))) (hl:l.length≤17592186044416):FAt w' a (bits l) :=
 own_fat (bits_len l) h hl (bits_lt l)

theorem compact_nil (w:World) :
  Calls Tryz.prog 223 #[.slice none 0 0,.func (.func 224) #[] #[]] w fun e w'=>e=.returned (.slice none 0 0)∧w=w':=by
 go_enter Tryz.func223,Tryz.ntmps223
 go_wp2
 go_ret
 exact ⟨rfl,rfl⟩

set_option maxHeartbeats 1000000 in
set_option maxRecDepth 100000 in
theorem fsort_any (a:Option Addr) (c n:Nat) (xs:List Nat) (w:World) (hn:xs.length=n) (h:FAt w a xs) (hl:n≤17592186044414) :
  Calls Tryz.prog 183 #[.slice a n c] w (FRet w (fsort xs)):=by
 have HN:=hid hn;have HS:=hid h
 have H0:Hid (w.ownsRow w.heap.size 57 1 (.slice none 0 0) 0 (fCells ((xs.take 0).map cbits))):=hid ⟨rfl,.inl ⟨rfl,rfl⟩⟩
 clear hn h
 go_enter Tryz.func183,Tryz.ntmps183
 go_wp2
 go_loopw [8,3] (fun iv uv wr=>∃ (i:Nat) (u:Option Addr) (cu:Nat),i≤n∧iv=.int .i64 i∧uv=.slice u i cu∧Hid (wr.ownsRow w.heap.size 57 1 (.slice u i cu) i (fCells ((xs.take i).map cbits)))∧Below w.heap.size w wr) (fun iv _ _=>n-(intOf iv).toNat)
 case atStart=>exact ⟨0,none,0,Nat.zero_le _,rfl,rfl,H0,Below.refl _ _⟩
 case round =>
  obtain ⟨i,u,cu,hin,rfl,rfl,HO,hb⟩:=hrel
  have hz:=hb.size
  by_cases hlt:i<n
  ·have hlt':(i:Int)<(n:Int):=by omega
   have hil:i<xs.length:=by rw [HN.out];exact hlt
   have hx:=fl_some hil
   have l1:=HS.out.lt i hil
   rcases HS.out.row with h0|⟨g,o,rfl,hg,hcs⟩
   ·rw [h0] at hil;simp at hil
   have d0:=(hb.cell (p:=⟨g,_,none⟩) hg).trans (hcs i hil)
   have HT:Hid ((xs.take (i+1)).map cbits=(xs.take i).map cbits++[cbits (xs[i]?.getD 0)]):=hid (by rw [List.take_add_one,hx,List.map_append];rfl)
   have hrl:((xs.take i).map cbits).length=i:=by rw [List.length_map,List.length_take,HN.out];omega
   generalize xs[i]?.getD 0=x at *
   obtain ⟨a',c',w',hr,ho',hb'⟩:=appF (cbits x) hrl HO.out hz (by omega)
   have HO':=hid ho'
   have Hb2:=hid (hb.trans hb')
   clear ho' hrl hx hcs hil
   go_wp2_with (first|(go_at_call 195;(with_reducible refine (floCanon_any x l1 _).mono ?_);rintro e w' ⟨rfl,rfl⟩)|(at_builtin;refine Lib.wpList_append_run _ rfl _ _ _ _ rfl _ _ rfl rfl _ _ (hr _) ?_))
   go_roundw
   case rel=>exact ⟨i+1,a',c',by omega,by go_num,rfl,hid (by rw [HT.out];exact HO'.out),Hb2.out⟩
   case measure=>simp [intOf];omega
  ·obtain rfl:i=n:=by omega
   have hown:=HO.out
   rw [show xs.take i=xs by rw [←HN.out,List.take_length],←bits_cb] at hown
   have hlm:(xs.map cb).length=i:=by rw [List.length_map];exact HN.out
   have H:=sort_floats wr w.heap.size u cu i (xs.map cb) hlm hown (by omega)
   go_wp2_with (go_at_call 222;refine H.mono ?_;rintro e w1 ⟨rfl,hown1,hg1⟩)
   clear H
   have hb1:Below w.heap.size w w1:=hb.grown hg1 hz (fun k hk=>(hown.lt k hk).1)
   have hz1:=hb1.size
   have hsl:(sortC (xs.map cb)).length=i:=by rw [sortC_len];exact hlm
   have hfs:dd (sortC (xs.map cb))=fsort xs:=rfl
   rcases hown1.2 with ⟨q1,q2⟩|⟨g,cap,cur,q1,hbase,hbk,hnc,hcm,hcs,htake⟩
   ·cases q1
    have hnil:fsort xs=[]:=by
     have:=fsort_len xs
     rw [HN.out] at this
     exact List.eq_nil_of_length_eq_zero (by omega)
    have Hfin:Hid (FRet w (fsort xs) (.returned (.slice none 0 0)) w1):=hid (by rw [hnil];exact ⟨none,0,rfl,⟨rfl,.inl ⟨rfl,rfl⟩⟩,hb1⟩)
    clear hown1 hown hsl hfs hnil hlm
    go_wp2_with fail
    refine (compact_nil w1).mono ?_
    rintro e w2 ⟨rfl,rfl⟩
    go_wp2_with fail
    go_ret
    exact Hfin.out
   ·cases q1
    rw [Nat.mul_one] at htake hcs
    have HC:=compact_any g cu i (sortC (xs.map cb)) cur w1 hsl hbk hnc hcm hcs htake
    have hfl:=fsort_len xs
    rw [HN.out] at hfl
    clear hown hsl hlm hown1
    go_wp2_with fail
    refine HC.mono ?_
    rintro e w2 ⟨h1,hg2,cur',r1,r2,r3⟩
    rw [hfs] at h1 r3
    subst h1
    have Hfin:Hid (FRet w (fsort xs) (.returned (.slice (some ⟨g,0,none⟩) (fsort xs).length cu)) w2):=hid
     ⟨_,_,rfl,⟨by rw [fCells_len,bits_len,Nat.mul_one],.inr ⟨g,cu,cur',rfl,hbase,r1,by omega,hcm,by rw [r2,hcs];omega,by rw [Nat.mul_one];exact r3⟩⟩,hb1.grown hg2 hz1 (fun k hk=>by cases hk;exact hbase)⟩
    clear HC r1 r2 r3 hg2 hbk htake
    go_wp2_with fail
    go_ret
    exact Hfin.out

theorem eqB_any (x y:Nat) (b:Bool) (hb:decide (x=y)=b) (w:World) :
  Calls Tryz.prog 184 #[.float .f64 x,.float .f64 y] w (Ret (.bool b) w):=by
 have h2:((x:Int) == (y:Int))=b:=by rw [←hb,Bool.eq_iff_iff];simp;omega
 clear hb
 go_enter Tryz.func184,Tryz.ntmps184
 go_wp2_with fail
 go_ret
 exact ⟨rfl,by exact below_auto⟩

set_option maxHeartbeats 1000000 in
set_option maxRecDepth 100000 in
theorem equalF_any (a a':Option Addr) (c c' n n':Nat) (xs ys:List Nat) (v:Bool) (w:World) (hn:xs.length=n) (hn':ys.length=n') (hx:FAt w a xs) (hy:FAt w a' ys) (hv:decide (xs=ys)=v) :
  Calls Tryz.prog 182 #[.slice a n c,.slice a' n' c',.func (.func 184) #[] #[]] w (Ret (.bool v) w):=by
 by_cases hnn:n=n'
 ·subst hnn
  have hb1:((n:Int) != (n:Int))=false:=by simp
  obtain ⟨hr,_,hm⟩:=hx
  obtain ⟨hr',_,_⟩:=hy
  unfold maxLen at hm
  rw [hn] at hm
  have HN:=hid hn;have HN':=hid hn';have HV:=hid hv
  clear hn hn' hv
  go_enter Tryz.func182,Tryz.ntmps182
  go_wp2
  go_loopw [17] (fun iv wr=>∃ k:Nat,k≤n∧iv=.int .i64 k∧Hid (∀ j,j<k→xs[j]? = ys[j]?)∧Below w.heap.size w wr) (fun iv _=>n-(intOf iv).toNat)
  case atStart=>exact ⟨0,Nat.zero_le _,rfl,hid fun j hj=>absurd hj (Nat.not_lt_zero _),Below.refl _ _⟩
  case round =>
   obtain ⟨k,hk,rfl,HR,hbw⟩:=hrel
   have hsz:=hbw.size
   by_cases hlt:k<n
   ·have hlt':(k:Int)<(n:Int):=by omega
    have k1:k<xs.length:=by rw [HN.out];exact hlt
    have k2:k<ys.length:=by rw [HN'.out];exact hlt
    rcases hr with h0|⟨b,o,rfl,hb,hc⟩
    ·rw [h0] at k1;simp at k1
    rcases hr' with h0|⟨b',o',rfl,hb',hc'⟩
    ·rw [h0] at k2;simp at k2
    have d0:=(hbw.cell (p:=⟨b,_,none⟩) hb).trans (hc k k1)
    have e0:=(hbw.cell (p:=⟨b',_,none⟩) hb').trans (hc' k k2)
    have hxs:=hid (fl_some k1)
    have hys:=hid (fl_some k2)
    clear hc hc' k1 k2
    generalize xs[k]?.getD 0=x at *
    generalize ys[k]?.getD 0=y at *
    cases hp:decide (x=y)
    ·have H:=fun W=>eqB_any x y false hp W
     have Hv:Hid (v=false):=hid (by
      rw [←HV.out,decide_eq_false_iff_not]
      intro h
      have h1:=hxs.out
      rw [h,hys.out] at h1
      exact (of_decide_eq_false hp) (Option.some.inj h1).symm)
     clear hp
     go_wp2_with (go_at_call 184;with_reducible refine mQ (H _) ?_;intro w1 hb1 hc1 hf1 hz1;intros;(try have hu1_wr_0:wr.heap.size<w1.heap.size:=by omega);(try have hu1_wr_1:wr.heap.size+1<w1.heap.size:=by omega))
     go_ret
     exact ⟨ret_bool (by rw [Hv.out]),by exact below_auto⟩
    ·have hxy:x=y:=of_decide_eq_true hp
     subst hxy
     have H:=fun W=>eqB_any x x true hp W
     have HR2:Hid (∀ j,j<k+1→xs[j]? = ys[j]?):=hid fun j hj=>by
      by_cases h:j<k
      ·exact HR.out j h
      ·obtain rfl:j=k:=by omega
       rw [hxs.out,hys.out]
     clear hp
     go_wp2_with (go_at_call 184;with_reducible refine mQ (H _) ?_;intro w1 hb1 hc1 hf1 hz1;intros;(try have hu1_wr_0:wr.heap.size<w1.heap.size:=by omega);(try have hu1_wr_1:wr.heap.size+1<w1.heap.size:=by omega))
     go_roundw
     case rel=>exact ⟨k+1,by omega,by go_num,HR2,by exact below_auto⟩
     case measure=>simp [intOf];omega
   ·obtain rfl:k=n:=by omega
    have Hv:Hid (v=true):=hid (by
     rw [←HV.out,decide_eq_true_eq]
     apply List.ext_getElem?
     intro j
     by_cases hj:j<k
     ·exact HR.out j hj
     ·rw [List.getElem?_eq_none (by rw [HN.out];omega),List.getElem?_eq_none (by rw [HN'.out];omega)])
    go_wp2
    go_ret
    exact ⟨ret_bool (by rw [Hv.out]),by exact below_auto⟩
 ·have hb1:((n:Int) != (n':Int))=true:=by simp;omega
  have Hv:Hid (v=false):=hid (by
   rw [←hv,decide_eq_false_iff_not]
   intro h
   rw [h] at hn;omega)
  clear hv hx hy hn hn'
  go_enter Tryz.func182,Tryz.ntmps182
  go_wp2
  go_ret
  exact ⟨ret_bool (by rw [Hv.out]),by exact below_auto⟩

theorem rising_any (a:Option Addr) (c n:Nat) (xs:List Nat) (v:Bool) (w:World) (hn:xs.length=n) (h:FAt w a xs) (hl:n≤17592186044414) (hv:decide (xs=bits (fsort xs))=v) :
  Calls Tryz.prog 109 #[.slice a n c] w (Ret (.bool v) w):=by
 have H:=fsort_any a c n xs w hn h hl
 have hfl:=fsort_len xs
 rw [hn] at hfl
 have HN:=hid hn;have HV:=hid hv
 clear hn hv
 go_enter Tryz.func109,Tryz.ntmps109
 go_wp2_with fail
 refine H.mono ?_
 rintro e w1 ⟨a1,c1,rfl,hown1,hb1⟩
 have H2:=equalF_any a a1 c c1 n (fsort xs).length xs (bits (fsort xs)) v w1 HN.out (bits_len _) (h.below hb1) (FRet.fat hown1 (by omega)) HV.out
 clear H hown1
 go_wp2_with fail
 refine H2.mono ?_
 rintro e w2 ⟨rfl,hb2⟩
 go_wp2_with fail
 go_ret
 exact ⟨rfl,hb1.trans (hb2.mono hb1.size)⟩

end Go.Proofs.YtdeeoddacnealaaGreat.K