/- Have two submissions nothing in common: the walk of apart; a submission with its Snap: the walk of snap. -/
import Derived.Test.YtfbachckdadhoaaGreatCV
import Derived.Test.YtfbachckdadhoaaGreatCU
namespace Go.Proofs.YtfbachckdadhoaaGreat.C
set_option linter.unusedVariables false
open Go.RowKit Fl
set_option linter.unusedSimpArgs false

def snapV (x:SubV) (n:Int):SubV:=if x.s2<0∧-50<x.s2 then { x with s2:=max (n+1+x.s2) 0 } else x
theorem snapV_at {x:SubV} {w:World} (h:x.At w) (n:Int):(snapV x n).At w:=by
 unfold snapV
 split
 ·exact ⟨h.r,h.s,h.w⟩
 ·exact h
theorem set6 {w:World} {g:Nat} {T:TypeId} {a0 a1 a2 a3 a4 a5:Value} (h:w.heap[g]? = some (.cells #[a0,a1,a2,a3,a4,a5] T (0,0))) (v0 v1 v2 v3 v4 v5:Value) :
  ((((((w.setCell ⟨g,0,none⟩ v0).setCell ⟨g,1,none⟩ v1).setCell ⟨g,2,none⟩ v2).setCell ⟨g,3,none⟩ v3).setCell ⟨g,4,none⟩ v4).setCell ⟨g,5,none⟩ v5).heap[g]? = some (.cells #[v0,v1,v2,v3,v4,v5] T (0,0)) ∧
  w.grownBy ((((((w.setCell ⟨g,0,none⟩ v0).setCell ⟨g,1,none⟩ v1).setCell ⟨g,2,none⟩ v2).setCell ⟨g,3,none⟩ v3).setCell ⟨g,4,none⟩ v4).setCell ⟨g,5,none⟩ v5) (some g):=by
 obtain ⟨q0,k0⟩:=K.set1 (i:=0) h v0
 obtain ⟨q1,k1⟩:=K.set1 (i:=1) q0 v1
 obtain ⟨q2,k2⟩:=K.set1 (i:=2) q1 v2
 obtain ⟨q3,k3⟩:=K.set1 (i:=3) q2 v3
 obtain ⟨q4,k4⟩:=K.set1 (i:=4) q3 v4
 obtain ⟨q5,k5⟩:=K.set1 (i:=5) q4 v5
 exact ⟨q5,((((k0.trans k1).trans k2).trans k3).trans k4).trans k5⟩
set_option maxHeartbeats 4000000 in
set_option maxRecDepth 100000 in
theorem snap11_any (x y:SubV) (n:Int) (w:World) (h0:0≤n∧n≤1099511627776) (hy:snapV x n=y):Calls Tryz.prog 13 #[.agg #[.int .i64 x.s0,.int .i64 x.s1,.int .i64 x.s2,.slice x.ra x.rs.length x.rc,.slice x.sa x.ss.length x.sc,.slice x.wa x.ws.length x.wc],.int .i64 n] w (Ret (.agg #[.int .i64 y.s0,.int .i64 y.s1,.int .i64 y.s2,.slice y.ra y.rs.length y.rc,.slice y.sa y.ss.length y.sc,.slice y.wa y.ws.length y.wc]) w):=by
 obtain ⟨s0,s1,s2,ra,rc,rs,sa,sc,ss,wa,wc,ws⟩:=x
 unfold snapV at hy
 simp only at hy ⊢
 by_cases h1:s2<0
 ·by_cases h2:-50<s2
  ·rw [if_pos ⟨h1,h2⟩] at hy
   subst hy
   simp only
   generalize rs.length=n1 at *
   generalize ss.length=n2 at *
   generalize ws.length=n3 at *
   go_enter Tryz.func13,Tryz.ntmps13
   go_wp2
   exact bodyPost_ret (v:=.agg #[.int .i64 s0,.int .i64 s1,.int .i64 (max (n+1+s2) 0),.slice ra n1 rc,.slice sa n2 sc,.slice wa n3 wc]) (by simp [results,Tryz.results13,go_sem, *]) rfl ⟨rfl,by exact below_auto⟩
  ·rw [if_neg (fun h=>h2 h.2)] at hy
   subst hy
   simp only
   generalize rs.length=n1 at *
   generalize ss.length=n2 at *
   generalize ws.length=n3 at *
   go_enter Tryz.func13,Tryz.ntmps13
   go_wp2
   exact bodyPost_ret (v:=.agg #[.int .i64 s0,.int .i64 s1,.int .i64 s2,.slice ra n1 rc,.slice sa n2 sc,.slice wa n3 wc]) (by simp [results,Tryz.results13,go_sem, *]) rfl ⟨rfl,by exact below_auto⟩
 ·rw [if_neg (fun h=>h1 h.1)] at hy
  subst hy
  simp only
  generalize rs.length=n1 at *
  generalize ss.length=n2 at *
  generalize ws.length=n3 at *
  go_enter Tryz.func13,Tryz.ntmps13
  go_wp2
  exact bodyPost_ret (v:=.agg #[.int .i64 s0,.int .i64 s1,.int .i64 s2,.slice ra n1 rc,.slice sa n2 sc,.slice wa n3 wc]) (by simp [results,Tryz.results13,go_sem, *]) rfl ⟨rfl,by exact below_auto⟩
end Go.Proofs.YtfbachckdadhoaaGreat.C
