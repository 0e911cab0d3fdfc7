/- slices.Chunk at rows of bytes, in pieces of 4096: its iterator's contract. -/
import Derived.RangeFuncNested
import Derived.RangeFuncBound
import Derived.RangeFuncCalls
import Derived.RangeFuncLeaves
import Derived.Shelf.Abstract
import Derived.Shelf.RegionOpen
import Derived.WalkKit
import Derived.OwnWalkIn
import Derived.TacticsInMore
import Derived.LoopNIn
import Derived.LoopIn
import Derived.Sort.QuietIn
import Derived.Test.YtdeeoddacnealaaGreatProg
set_option linter.unusedVariables false
namespace Go.Proofs.YtdeeoddacnealaaGreat.K14
open Go.RowKit Go.Shelf
attribute [local go_sem] Oper.semAt_some

def cuts (n k:Nat):List (Nat×Nat):=(List.range k).map fun j=>(4096 * j,min 4096 (n-4096 * j))
theorem cuts_succ (n k:Nat):cuts n (k+1)=cuts n k++[(4096 * k,min 4096 (n-4096 * k))]:=by simp [cuts,List.range_succ]
theorem cuts_length (n k:Nat):(cuts n k).length=k:=by simp [cuts]
def many (n:Nat):Nat:=(n+4095) / 4096

def Two (Bs Bn:Nat) (A B:World):Prop:=B.cell? ⟨Bs,0,none⟩=A.cell? ⟨Bs,0,none⟩∧B.cell? ⟨Bn,0,none⟩=A.cell? ⟨Bn,0,none⟩
theorem Two.trans {Bs Bn:Nat} {A B C:World} (h:Two Bs Bn A B) (k:Two Bs Bn B C):Two Bs Bn A C:=⟨k.1.trans h.1,k.2.trans h.2⟩

set_option maxRecDepth 100000 in
set_option maxHeartbeats 2000000 in
theorem chunk1_in (F:Fence) (n:Nat) (hF:F.fn 215) (hro:F.round=none) (hn:1≤n) (l Bs Bn b off len cap:Nat) (hreach:len≤140737488351232) (hlc:len≤cap) (J Jx:List (Nat×Nat)→World→Prop)
  (hY:∀ pre x W,J pre W→pre.length<many len→YieldAt F (n-1) Tryz.prog l #[.slice (some ⟨b,off+x.1,none⟩) x.2 x.2] W fun e W' =>
   (e=.returned (.bool true)∧J (pre++[x]) W'∧Two Bs Bn W W')∨(e=.returned (.bool false)∧Jx (pre++[x]) W'))
  (W:World) (hBs:W.cell? ⟨Bs,0,none⟩=some (.slice (some ⟨b,off,none⟩) len cap)) (hBn:W.cell? ⟨Bn,0,none⟩=some (.int .i64 4096)) (h0:J [] W) (hJd:∀ s A q,J s A→J s (A.drewN q)) :
  CallsIn F n Tryz.prog 215 #[.func (.yield l) #[] #[],.pointer (some ⟨Bs,0,none⟩),.pointer (some ⟨Bn,0,none⟩)] W fun e W'=>(∃ v,e=.returned v) ∧
   (J (cuts len (many len)) W'∨(∃ pre,(∃ k,k≤many len∧pre=cuts len k)∧Jx pre W')):=by
 refine callsIn_of_wp Tryz.func215 rfl hF ?_ hro
 simp only [Tryz.ntmps215,List.size_toArray,List.length_cons,List.length_nil,Nat.reduceAdd,Nat.reduceSub,Array.replicate_succ,Array.replicate_zero,List.push_toArray,List.append_toArray,List.nil_append,List.cons_append]
 gi_wp2
 gi_loopw [4] (fun i wr=>∃ k:Nat,k≤many len∧i=.int .i64 ((4096 * k:Nat):Int)∧J (cuts len k) wr∧Two Bs Bn W wr)
  (fun i _=>4096 * many len-(intOf i).toNat)
 case atStart=>exact ⟨0,Nat.zero_le _,rfl,h0,rfl,rfl⟩
 case round =>
  obtain ⟨k,hk,rfl,hJs,hnx⟩:=hrel
  have hs1:wr.cell? ⟨Bs,0,none⟩=some (.slice (some ⟨b,off,none⟩) len cap):=hnx.1.trans hBs
  have hs2:wr.cell? ⟨Bn,0,none⟩=some (.int .i64 4096):=hnx.2.trans hBn
  by_cases hlt:4096 * k<len
  ·by_cases h4:4096 * k+4096≤len
   ·have hm:(4096:Int)≤((len-4096 * k:Nat):Int):=by omega
    gi_wp2
    refine wpIn_region_quiet_lit hro (by kernel_rfl) (by kernel_rfl) ?_
    repeat (gi_big_quiet_step (fail))
    refine wpQuietIn_nil ?_
    rintro _ ⟨nq,rfl⟩
    have hw1:Two Bs Bn W (wr.drewN nq):=hnx
    have hs3:(wr.drewN nq).cell? ⟨Bs,0,none⟩=some (.slice (some ⟨b,off,none⟩) len cap):=hs1
    have hs4:(wr.drewN nq).cell? ⟨Bn,0,none⟩=some (.int .i64 4096):=hs2
    obtain ⟨fn,tmps,assign,body,hy,hR⟩:=hY _ (4096 * k,4096) (wr.drewN nq) (hJd _ _ nq hJs) (by rw [cuts_length];unfold many;omega)
    dsimp only at hy
    have ee:cuts len k++[(4096 * k,4096)]=cuts len (k+1):=by rw [cuts_succ,Nat.min_eq_left (by omega)]
    gi_wp2
    refine hR.mono ?_
    rintro e W3 (⟨rfl,hJ3,hk3⟩|⟨rfl,hJx3⟩)
    ·have hs5:W3.cell? ⟨Bn,0,none⟩=some (.int .i64 4096):=hk3.2.trans hs4
     gi_wp2
     go_roundw
     case rel=>exact ⟨k+1,by unfold many;omega,by simp;omega,ee ▸ hJ3,hw1.trans hk3⟩
     case measure=>simp [intOf];unfold many;omega
    ·gi_wp2
     refine bodyPost_ret (results_none rfl _ _ _) rfl ?_
     exact ⟨⟨_,rfl⟩,.inr ⟨_,⟨k+1,by unfold many;omega,rfl⟩,ee ▸ hJx3⟩⟩
   ·have hm:((len-4096 * k:Nat):Int)<4096:=by omega
    gi_wp2
    refine wpIn_region_quiet_lit hro (by kernel_rfl) (by kernel_rfl) ?_
    repeat (gi_big_quiet_step (fail))
    refine wpQuietIn_nil ?_
    rintro _ ⟨nq,rfl⟩
    have hw1:Two Bs Bn W (wr.drewN nq):=hnx
    have hs3:(wr.drewN nq).cell? ⟨Bs,0,none⟩=some (.slice (some ⟨b,off,none⟩) len cap):=hs1
    have hs4:(wr.drewN nq).cell? ⟨Bn,0,none⟩=some (.int .i64 4096):=hs2
    obtain ⟨fn,tmps,assign,body,hy,hR⟩:=hY _ (4096 * k,len-4096 * k) (wr.drewN nq) (hJd _ _ nq hJs) (by rw [cuts_length];unfold many;omega)
    dsimp only at hy
    have ee:cuts len k++[(4096 * k,len-4096 * k)]=cuts len (k+1):=by rw [cuts_succ,Nat.min_eq_right (by omega)]
    gi_wp2
    refine hR.mono ?_
    rintro e W3 (⟨rfl,hJ3,hk3⟩|⟨rfl,hJx3⟩)
    ·have hs5:W3.cell? ⟨Bn,0,none⟩=some (.int .i64 4096):=hk3.2.trans hs4
     gi_wp2
     go_roundw
     case rel=>exact ⟨k+1,by unfold many;omega,by simp;omega,ee ▸ hJ3,hw1.trans hk3⟩
     case measure=>simp [intOf];unfold many;omega
    ·gi_wp2
     refine bodyPost_ret (results_none rfl _ _ _) rfl ?_
     exact ⟨⟨_,rfl⟩,.inr ⟨_,⟨k+1,by unfold many;omega,rfl⟩,ee ▸ hJx3⟩⟩
  ·have hkm:k=many len:=by unfold many at *;omega
   gi_wp2
   go_end0
   exact ⟨⟨_,rfl⟩,.inl (by rw [←hkm];exact hJs)⟩
theorem grown_drewN (A:World) (q:Nat):A.grownBy (A.drewN q) none:=⟨rfl,rfl,rfl,Nat.le_refl _,fun _ _ _=>rfl⟩
theorem two_b {Bs Bn:Nat} {w:World} (h1:Bs<w.heap.size) (h2:Bn<w.heap.size) (W:World) (l:Nat) (o o':Obj) (hl:w.heap.size≤l) (h:W.heap[l]? = some o):Two Bs Bn W (W.putObj l o'):=by
 have hlt:=(Array.getElem?_eq_some_iff.1 h).1
 exact ⟨World.cell?_of_block ((grownBy_putObj' W l o').block Bs (by omega) (fun e=>by cases e;omega)),World.cell?_of_block ((grownBy_putObj' W l o').block Bn (by omega) (fun e=>by cases e;omega))⟩
theorem chunk_stops (F:Fence) (n:Nat) (hF:F.fn 215) (hro:F.round=none) (hn:1≤n) (Bs Bn b off len cap:Nat) (hreach:len≤140737488351232) (hlc:len≤cap) (w:World) (h1:Bs<w.heap.size) (h2:Bn<w.heap.size)
  (hBs:w.cell? ⟨Bs,0,none⟩=some (.slice (some ⟨b,off,none⟩) len cap)) (hBn:w.cell? ⟨Bn,0,none⟩=some (.int .i64 4096)) :
  SeqStopsK F n Tryz.prog 215 #[.pointer (some ⟨Bs,0,none⟩),.pointer (some ⟨Bn,0,none⟩)] (fun x:Nat×Nat=>#[Value.slice (some ⟨b,off+x.1,none⟩) x.2 x.2]) (Two Bs Bn) (fun ys=>ys=cuts len (many len)) (fun pre=>∃ k,k≤many len∧pre=cuts len k) (many len) w:=fun l J Jx W hW hJ _ hY h0 =>
 (chunk1_in F n hF hro hn l Bs Bn b off len cap hreach hlc J Jx hY W ((hW.cell (p:=⟨Bs,0,none⟩) h1).trans hBs) ((hW.cell (p:=⟨Bn,0,none⟩) h2).trans hBn) h0 (fun s A q hs=>hJ s A _ none hs (grown_drewN A q) (fun r e=>by cases e))).mono
  fun _ _ ⟨he,h⟩=>⟨he,h.imp (fun h=>⟨_,rfl,h⟩) (fun ⟨pre,hk,hj⟩=>⟨pre,hk,hj⟩)⟩

set_option maxHeartbeats 1000000 in
theorem chunk_in (F:Fence) (n:Nat) (hF:F.fn 170) (hro:F.round=none) (a:Option Addr) (len cap:Nat) (w:World) :
  CallsIn F n Tryz.prog 170 #[.slice a len cap,.int .i64 4096] w fun e w' =>
   e=.returned (.func (.func 215) #[] #[.pointer (some ⟨w.heap.size,0,none⟩),.pointer (some ⟨w.heap.size+1,0,none⟩)]) ∧
   w'=(w.alloc (.cells #[.slice a len cap] 59)).alloc (.cells #[.int .i64 4096] 3):=by
 refine callsIn_of_wp Tryz.func170 rfl hF ?_ hro
 simp only [Tryz.ntmps170,List.size_toArray,List.length_cons,List.length_nil,Nat.reduceAdd,Nat.reduceSub,Array.replicate_succ,Array.replicate_zero,List.push_toArray,List.append_toArray,List.nil_append,List.cons_append]
 gi_wp2
 go_ret
 exact ⟨by simp,rfl⟩

end Go.Proofs.YtdeeoddacnealaaGreat.K14