/- machine.pieces: bytes as values. -/
import Derived.RangeFuncBox
import Derived.RangeFuncFrom
import Derived.RangeFuncNested
import Derived.RangeFuncWrites
import Derived.Maps.AppendAt
import Derived.Test.YtdeeoddacnealaaGreatZK
import Derived.Test.YtdeeoddacnealaaGreatMPE
import Derived.Test.YtdeeoddacnealaaGreatMNK
set_option linter.unusedVariables false
namespace Go.Proofs.YtdeeoddacnealaaGreat.K14
open Go.RowKit Go.Shelf
attribute [local go_sem] Oper.semAt_some

def pcs (g off:Nat) (pre:List (Nat×Nat)):List Value :=
 [.int .i64 1,.int .i64 (pre.length:Int),.float .f64 0,.slice none 0 0,.bool false]++pre.flatMap fun x=>[.int .i64 3,.int .i64 0,.float .f64 0,.slice (some ⟨g,off+x.1,none⟩) x.2 x.2,.bool false]

theorem own_set {W:World} {base:Nat} {e:TypeId} {size k g cap:Nat} {xs:List Value} (h:W.ownsRow base e size (.slice (some ⟨g,0,none⟩) k cap) k xs) (i:Nat) (u:Value) :
  (W.setCell ⟨g,i,none⟩ u).ownsRow base e size (.slice (some ⟨g,0,none⟩) k cap) k (xs.set i u)∧W.grownBy (W.setCell ⟨g,i,none⟩ u) (some g):=by
 rcases h.2 with ⟨h1,_⟩|⟨g',cap',cur,h1,h2,h3,h4,h5,h6,h7⟩
 ·cases h1
 ·cases h1
  obtain ⟨k1,k2⟩:=K.set1 (i:=i) h3 u
  exact ⟨⟨by rw [List.length_set];exact h.1,.inr ⟨g,cap,_,rfl,h2,k1,h4,h5,by rw [Array.size_setIfInBounds];exact h6,by rw [Array.toList_setIfInBounds,List.take_set,h7]⟩⟩,k2⟩
theorem pcs_snoc (g off:Nat) (pre:List (Nat×Nat)) (x:Nat×Nat):pcs g off (pre++[x])=(pcs g off pre++[Value.int .i64 3,Value.int .i64 0,Value.float .f64 0,Value.slice (some ⟨g,off+x.1,none⟩) x.2 x.2,Value.bool false]).set 1 (.int .i64 ((pre.length+1:Nat):Int)):=by
 simp [pcs]

theorem own_free {W:World} {base:Nat} {e:TypeId} {size k g cap:Nat} {xs:List Value} (h:W.ownsRow base e size (.slice (some ⟨g,0,none⟩) k cap) k xs) (i:Nat):W.frozen? ⟨g,i,none⟩=false:=by
 rcases h.2 with ⟨h1,_⟩|⟨g',cap',cur,h1,_,h3,_⟩
 ·cases h1
 ·cases h1;simp [World.frozen?,h3]
theorem al1 (w:World) (o:Obj) {k:Nat} (h:k<w.heap.size):(w.alloc o).heap[k]? = w.heap[k]?:=(World.grownBy_alloc w o none).block k h (by simp)
theorem al4 (w:World) (o1 o2 o3 o4:Obj):∃ W,W=(((w.alloc o1).alloc o2).alloc o3).alloc o4∧W.heap.size=w.heap.size+4∧W.heap[w.heap.size]? = some o1∧W.heap[w.heap.size+1]? = some o2∧W.heap[w.heap.size+2]? = some o3∧W.heap[w.heap.size+3]? = some o4∧Below w.heap.size w W:=by
 have e1:=World.alloc_heap_new w o1
 have e2:=World.alloc_heap_new (w.alloc o1) o2
 have e3:=World.alloc_heap_new ((w.alloc o1).alloc o2) o3
 have e4:=World.alloc_heap_new (((w.alloc o1).alloc o2).alloc o3) o4
 have z1:(w.alloc o1).heap.size=w.heap.size+1:=World.size_alloc _ _
 have z2:((w.alloc o1).alloc o2).heap.size=w.heap.size+2:=by rw [World.size_alloc,z1]
 have z3:(((w.alloc o1).alloc o2).alloc o3).heap.size=w.heap.size+3:=by rw [World.size_alloc,z2]
 have z4:((((w.alloc o1).alloc o2).alloc o3).alloc o4).heap.size=w.heap.size+4:=by rw [World.size_alloc,z3]
 rw [z1] at e2
 rw [z2] at e3
 rw [z3] at e4
 exact ⟨_,rfl,z4,(al1 _ _ (by omega)).trans ((al1 _ _ (by omega)).trans ((al1 _ _ (by omega)).trans e1)),(al1 _ _ (by omega)).trans ((al1 _ _ (by omega)).trans e2),(al1 _ _ (by omega)).trans e3,e4,
  ((((Below.refl _ w).alloc (Nat.le_refl _) _).alloc (by omega) _).alloc (by omega) _).alloc (by omega) _⟩

set_option maxRecDepth 100000 in
set_option maxHeartbeats 2000000 in
theorem pieces_any (g off len cap:Nat) (w:World) (hlc:len≤cap) (hlen:len≤100000000) :
  Calls Tryz.prog 93 #[.slice (some ⟨g,off,none⟩) len cap] w fun e w'=>∃ v,e=.returned v∧w'.ownsRow w.heap.size 136 5 v (many len+1) (pcs g off (cuts len (many len)))∧Below w.heap.size w w':=by
 refine (callsIn_wide (n:=6)).1 ?_
 refine callsIn_of_wp_marks Tryz.func93 rfl trivial ?_ rfl
 simp only [Tryz.ntmps93,List.size_toArray,List.length_cons,List.length_nil,Nat.reduceAdd,Nat.reduceSub,Array.replicate_succ,Array.replicate_zero,List.push_toArray,List.append_toArray,List.nil_append,List.cons_append]
 have cC:=chunk_in Fence.wide 5 trivial rfl (some ⟨g,off,none⟩) len cap
 gi_wp2
 refine ⟨trivial,(cC _).mono ?_⟩
 rintro e w' ⟨rfl,rfl⟩
 gi_wp2
 obtain ⟨W4,hW4,hz4,hr0,hb0,hs0,hn0,hB4⟩:=al4 w (.cells #[.int .i64 1,.int .i64 0,.float .f64 0,.slice none 0 0,.bool false] 136) (.cells #[.slice (some ⟨w.heap.size,0,none⟩) 1 1] 134) (.cells #[.slice (some ⟨g,off,none⟩) len cap] 59) (.cells #[.int .i64 4096] 3)
 rw [←hW4]
 clear hW4 cC
 have hcs:W4.cell? ⟨w.heap.size+2,0,none⟩=some (.slice (some ⟨g,off,none⟩) len cap):=by rw [cell_of_row W4 _ _ _ _ (0,0) hs0];rfl
 have hcn:W4.cell? ⟨w.heap.size+3,0,none⟩=some (.int .i64 4096):=by rw [cell_of_row W4 _ _ _ _ (0,0) hn0];rfl
 refine wpIn_rangeFunc_ownF (F:=Fence.wide) rfl (by omega) (gf:=215) (lb:=#[.pointer (some ⟨w.heap.size+2,0,none⟩),.pointer (some ⟨w.heap.size+3,0,none⟩)]) rfl trivial (enters_of Tryz.func215 (by kernel_rfl) rfl)
  (chunk_stops Fence.wide 5 trivial rfl (by omega) (w.heap.size+2) (w.heap.size+3) g off len cap (by omega) hlc W4 (by omega) (by omega) hcs hcn) (fun h k=>h.trans k) (fun W l o o' hl ho _ _=>two_b (w:=W4) (by omega) (by omega) W l o o' hl ho) (Below.refl _ _) (fun _=>rfl)
  (fun pre W=>(∃ v,Boxed W (w.heap.size+1) 134 v∧W.ownsRow w.heap.size 136 5 v (pre.length+1) (pcs g off pre)∧True)∧(Boxed W (w.heap.size+2) 59 (.slice (some ⟨g,off,none⟩) len cap)∧Boxed W (w.heap.size+3) 3 (.int .i64 4096))∧Below w.heap.size w W)
  (fun _ _ _=>False)
  (OwnFrom.and (Own.from (holdsRow_own w.heap.size (w.heap.size+1) 134 136 5 (fun pre=>pre.length+1) (pcs g off) (fun _ _=>True)) _) (OwnFrom.and (OwnFrom.and (Own.from (boxed_own (w.heap.size+2) 59 fun _=>.slice (some ⟨g,off,none⟩) len cap) _) (Own.from (boxed_own (w.heap.size+3) 3 fun _=>.int .i64 4096) _)) (ownFrom_below (Nat.le_refl _) (by omega))))
  (fun _ _ _ _ _ hs _ _=>hs)
  ⟨⟨_,hb0,⟨rfl,.inr ⟨w.heap.size,1,_,rfl,Nat.le_refl _,hr0,Nat.le_refl _,by decide,rfl,rfl⟩⟩,trivial⟩,⟨hs0,hn0⟩,hB4⟩
  (fun x=>{ tmps:=#[.slice (some ⟨g,off,none⟩) len cap,undef,.slice none 0 0,.pointer (some ⟨w.heap.size+1,0,none⟩),.slice (some ⟨g,off+x.1,none⟩) x.2 x.2,.agg #[.int .i64 1,.int .i64 0,.float .f64 0,.slice none 0 0,.bool false],.slice (some ⟨w.heap.size,0,none⟩) 1 1,.slice (some ⟨g,off,none⟩) len cap,.func (.func 215) #[] #[.pointer (some ⟨w.heap.size+2,0,none⟩),.pointer (some ⟨w.heap.size+3,0,none⟩)],.slice (some ⟨g,off+x.1,none⟩) x.2 x.2,undef,undef,undef,undef,undef,undef,undef,undef,undef,undef,undef,undef,undef],defers:=[] }) ?assign ?body ?done ?stop
 case assign =>
  intro l x W K hK
  gi_wp2
  exact hK
 case body =>
  rintro l pre x W ⟨⟨v,hv,hrow,_⟩,⟨hx1,hx2⟩,hB⟩ hlt
  have hvc:=hv.cell
  have hvf:=hv.frozen
  obtain ⟨i0,hi,hz0,hz1,hz2⟩:=info_parts P.valInfo
  have hpl:pre.length≤100000:=by unfold many at hlt;omega
  gi_wp2_with (gi_at_builtin;refine wpListIn_append_own _ rfl _ _ 134 rfl w.heap.size 136 i0 _ 5 56 Tryz.underlying134 hi hz0 hz1 hz2 rfl (by decide) _ _ _ rfl (hrow.alloc _) ⟨W.heap.size,0,none⟩ 1 1 [Value.int .i64 3,Value.int .i64 0,Value.float .f64 0,Value.slice (some ⟨g,off+x.1,none⟩) x.2 x.2,Value.bool false] rfl rfl (fun j u hj=>by rw [K.addr0,cell_of_row _ _ j _ _ (0,0) (World.alloc_heap_new W _)];rw [←hj];simp) (by simp [Value.oneCell']) (by unfold maxLen;omega) (by omega) (by have:=hB.size;simp;omega) ?_;intro v' w1 hown' hgrow _;obtain ⟨g',cap',rfl⟩:=ownsRow_succ hown';obtain ⟨hv1,hv2,hr2,hk2,hb2⟩:=hv.appended (by decide) hrow hB.size (by omega) hown' hgrow;have hc1:=hv1.cell;have hf1:=hv1.frozen;have hn1:w1.cell? ⟨g',1,none⟩=some (.int .i64 (pre.length:Int)):=(by have:=hown'.cells (g:=g') rfl 1 (.int .i64 (pre.length:Int)) (by simp [pcs]);rw [K.addr0] at this;exact this);have hfn1:w1.frozen? ⟨g',1,none⟩=false:=own_free hown' 1)
  obtain ⟨hr3,hg3⟩:=own_set hr2 1 (.int .i64 ((pre.length:Int)+1))
  have hg0:=(hr2.lt g' rfl).1
  have keep:∀ (B:Nat) (t:TypeId) (u:Value),Boxed W B t u→t≠136→B≠w.heap.size+1→Boxed _ B t u:=fun B t u h ht hB'=>by
   have h1:=(((h.alloc _).kept hgrow (h.not_row ht hrow)).other hB' (.slice (some ⟨g',0,none⟩) (pre.length+1+1) cap'))
   exact h1.kept hg3 (h1.not_row ht hr2)
  have b1:=keep _ _ _ hx1 (by decide) (by omega)
  have b2:=keep _ _ _ hx2 (by decide) (by omega)
  refine ⟨hk2.trans (KeepsOthers.setCell _ _ _),⟨b1.cell.trans hx1.cell.symm,b2.cell.trans hx2.cell.symm⟩,⟨_,hv2.kept hg3 (hv2.not_row (by decide) hr2),?_,trivial⟩,⟨b1,b2⟩,hB.trans (hb2.grown hg3 (Nat.le_trans hB.size hb2.size) (fun k e=>by cases e;exact hg0))⟩
  rw [pcs_snoc,List.length_append]
  exact hr3
 case done =>
  rintro D ys W hD rfl ⟨⟨v,hv,hrow,_⟩,_,hB⟩ hK
  have hvc:=hv.cell
  gi_wp2
  refine ⟨by simp,.inl ⟨_,_,rfl,run_takeDeferred hK,?_⟩⟩
  refine ⟨_,results_tmp rfl _ _ _,v,rfl,by rw [cuts_length] at hrow;exact ownsRow_putObj hrow _ hK rfl,hB.trans (belowK_b (w:=w) (Nat.le_refl _) W D _ _ (by omega) hK rfl rfl)⟩
 case stop =>
  rintro D c pre W _ _ h _
  exact h.elim

end Go.Proofs.YtdeeoddacnealaaGreat.K14