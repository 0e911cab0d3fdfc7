/- Several texts as one: KF KC0 KC KD. -/
import Derived.Test.YtdeeoddacnealaaGreatMKA
import Derived.Test.YtdeeoddacnealaaGreatMNS
import Derived.Test.YtdeeoddacnealaaGreatMR
import Derived.Test.YtdeeoddacnealaaGreatMN
import Derived.Test.YtdeeoddacnealaaGreatMNI
import Derived.Deep.CutBlock
set_option linter.unusedVariables false
set_option linter.unusedSimpArgs false
namespace Go.Proofs.YtdeeoddacnealaaGreat.K
open Go.RowKit Fl

theorem ixNan_any (a:Option Addr) (c n:Nat) (xs:List Nat) (w:World) (hn:xs.length=n) (h:FAt w a xs) :
  Calls Tryz.prog 179 #[.slice a n c,.func (.func 106) #[] #[]] w fun e w'=>e=.returned (.int .i64 (idxB isNaN xs))∧w=w':=by
 obtain ⟨hr,hl,hm⟩:=h
 unfold maxLen at hm
 rcases hr with rfl|⟨b,o,rfl,hb,hc⟩
 ·simp only [List.length_nil] at hn
  subst hn
  have e:idxB isNaN [] = -1:=rfl
  rw [e]
  clear hl e
  go_enter Tryz.func179,Tryz.ntmps179
  go_wp2
  go_loop [8] (fun i=>i=.int .i64 0) (fun _=>0)
  case atStart=>rfl
  case round =>
   subst hrel
   go_wp2
   go_ret
   exact ⟨rfl,rfl⟩
 ·have HC:=hid hc;have HN:=hid hn
  rw [hn] at hm
  clear hc hn hl
  go_enter Tryz.func179,Tryz.ntmps179
  go_wp2
  go_loop [8] (fun i=>∃ k:Nat,k≤n∧i=.int .i64 k∧Hid (∀ j:Nat,j<k→∀ y,xs[j]? = some y→isNaN y=false)) (fun i=>n-(intOf i).toNat)
  case atStart=>exact ⟨0,Nat.zero_le _,rfl,hid fun j hj=>absurd hj (Nat.not_lt_zero _)⟩
  case round =>
   obtain ⟨k,hk,rfl,HR⟩:=hrel
   by_cases hlt:k<n
   ·have hcell:=HC.out k (by rw [HN.out];exact hlt)
    have hlt':(k:Int)<(n:Int):=by omega
    have hkx:=hid (fl_some (xs:=xs) (k:=k) (by rw [HN.out];exact hlt))
    generalize xs[k]?.getD 0=x at *
    cases hp:isNaN x
    ·go_wp2
     go_round
     case rel=>exact ⟨k+1,by omega,by go_num,hid fun j hj y hy=>by
       by_cases h:j<k
       ·exact HR.out j h y hy
       ·obtain rfl:j=k:=by omega
        rw [hkx.out] at hy;cases hy;exact hp⟩
     case measure=>simp [intOf];omega
    ·go_wp2
     go_ret
     exact ⟨ret_int (by rw [idxB_some hkx.out hp HR.out]),rfl⟩
   ·obtain rfl:k=n:=by omega
    go_wp2
    go_ret
    refine ⟨ret_int ?_,rfl⟩
    rw [idxB_none]
    intro i x hx
    refine HR.out i ?_ x hx
    have:=(List.getElem?_eq_some_iff.1 hx).1
    have:=HN.out
    omega
theorem hasNan_any (a:Option Addr) (c n:Nat) (xs:List Nat) (v:Bool) (w:World) (hn:xs.length=n) (h:FAt w a xs) (hv:xs.any isNaN=v) :
  Calls Tryz.prog 105 #[.slice a n c,.func (.func 106) #[] #[]] w (Ret (.bool v) w):=by
 have H:=ixNan_any a c n xs w hn h
 rw [←idxB_any] at hv
 generalize idxB isNaN xs=r at *
 have hn':=hid hn
 clear hn
 go_enter Tryz.func105,Tryz.ntmps105
 go_wp2_with (go_at_call 179;(with_reducible refine (H).mono ?_);rintro e w' ⟨rfl,rfl⟩)
 go_ret
 exact ⟨ret_bool (by rw [←hv]),by exact below_auto⟩

theorem ixEmpty_any (a:Option Addr) (c n:Nat) (ss:List SpanV) (w:World) (hn:ss.length=n) (h:SAt w a ss) :
  Calls Tryz.prog 180 #[.slice a n c,.func (.func 108) #[] #[]] w (Ret (.int .i64 (idxB (fun s=>s.rg.isNone) ss)) w):=by
 obtain ⟨hr,hl,hm⟩:=h
 unfold maxLen at hm
 rcases hr with rfl|⟨b,o,rfl,hb,hc⟩
 ·simp only [List.length_nil] at hn
  subst hn
  have e:idxB (fun s:SpanV=>s.rg.isNone) [] = -1:=rfl
  rw [e]
  clear hl e
  go_enter Tryz.func180,Tryz.ntmps180
  go_wp2
  go_loop [8] (fun i=>i=.int .i64 0) (fun _=>0)
  case atStart=>rfl
  case round =>
   subst hrel
   go_wp2
   go_ret
   exact ⟨rfl,Below.refl _ _⟩
 ·have HC:=hid hc;have HN:=hid hn;have HL:=hid hl
  rw [hn] at hm
  clear hc hn hl
  go_enter Tryz.func180,Tryz.ntmps180
  go_wp2
  go_loopw [8] (fun i wr=>∃ k:Nat,k≤n∧i=.int .i64 k∧Hid (∀ j:Nat,j<k→∀ y,ss[j]? = some y→y.rg.isNone=false)∧Below w.heap.size w wr) (fun i _=>n-(intOf i).toNat)
  case atStart=>exact ⟨0,Nat.zero_le _,rfl,hid fun j hj=>absurd hj (Nat.not_lt_zero _),Below.refl _ _⟩
  case round =>
   obtain ⟨k,hk,rfl,HR,hbw⟩:=hrel
   by_cases hlt:k<n
   ·obtain ⟨c0,c1,c2,c3⟩:=HC.out k (by rw [HN.out];exact hlt)
    obtain ⟨l1,l2⟩:=HL.out k (by rw [HN.out];exact hlt)
    have hlt':(k:Int)<(n:Int):=by omega
    have hkx:=hid (sp_some (ss:=ss) (k:=k) (by rw [HN.out];exact hlt))
    have hsz:=hbw.size
    have kk:=fun j=>hbw.cell (p:=⟨b,j,none⟩) hb
    have d0:=(kk _).trans c0;have d1:=(kk _).trans c1;have d2:=(kk _).trans c2;have d3:=(kk _).trans c3
    clear c0 c1 c2 c3 kk
    generalize ss[k]?.getD default=s at *
    have H:=fun v hv W=>empty_is s.lo s.hi s.a s.b v W l1 l2 hv
    cases hp:s.rg.isNone
    ·have H1:=fun W=>H false (hid hp) W
     have HP:=hid hp
     clear hp H
     go_wp2_with (go_at_call 108;with_reducible refine mQ (H1 _) ?_;intro w1 hb1 hc1 hf1 hz1;intros)
     go_roundw
     case rel=>exact ⟨k+1,by omega,by go_num,hid fun j hj y hy=>by
       by_cases h:j<k
       ·exact HR.out j h y hy
       ·obtain rfl:j=k:=by omega
        rw [hkx.out] at hy;cases hy;exact HP.out,by exact below_auto⟩
     case measure=>simp [intOf];omega
    ·have H1:=fun W=>H true (hid hp) W
     have HP:=hid hp
     clear hp H
     go_wp2_with (go_at_call 108;with_reducible refine mQ (H1 _) ?_;intro w1 hb1 hc1 hf1 hz1;intros)
     go_ret
     exact ⟨ret_int (by rw [idxB_some (p:=fun s:SpanV=>s.rg.isNone) hkx.out HP.out HR.out]),by exact below_auto⟩
   ·obtain rfl:k=n:=by omega
    go_wp2
    go_ret
    refine ⟨ret_int ?_,by exact below_auto⟩
    rw [idxB_none]
    intro i x hx
    refine HR.out i ?_ x hx
    have:=(List.getElem?_eq_some_iff.1 hx).1
    have:=HN.out
    omega
theorem hasEmpty_any (a:Option Addr) (c n:Nat) (ss:List SpanV) (v:Bool) (w:World) (hn:ss.length=n) (h:SAt w a ss) (hv:(ss.any fun s=>s.rg.isNone)=v) :
  Calls Tryz.prog 107 #[.slice a n c,.func (.func 108) #[] #[]] w (Ret (.bool v) w):=by
 have H:=ixEmpty_any a c n ss w hn h
 rw [←idxB_any] at hv
 generalize idxB (fun s:SpanV=>s.rg.isNone) ss=r at *
 have hn':=hid hn
 clear hn
 go_enter Tryz.func107,Tryz.ntmps107
 go_wp2_with (go_at_call 180;with_reducible refine mQ (H) ?_;intro w1 hb1 hc1 hf1 hz1;intros)
 go_ret
 exact ⟨ret_bool (by rw [←hv]),by exact below_auto⟩

instance:DecidableEq SpanV:=fun x y=>decidable_of_iff _ (N.sameSp_iff x y)
set_option maxHeartbeats 8000000 in
theorem same_lit (lo hi l h:Nat) (a b f1 f2 e1 e2 v:Bool) (w:World) (hf1:feq lo l=f1) (hf2:feq hi h=f2) (he1:((lo:Int) == (l:Int))=e1) (he2:((hi:Int) == (h:Int))=e2) (hv:(!a && !b && f1 && f2 && e1 && e2)=v) :
  Calls Tryz.prog 112 #[.agg #[.float .f64 lo,.float .f64 hi,.bool a,.bool b],.agg #[.float .f64 l,.float .f64 h,.bool false,.bool false]] w (Ret (.bool v) w):=by
 subst hv
 cases a <;> cases b <;> cases f1 <;> cases f2 <;> cases e1 <;> cases e2
 all_goals
  go_enter Tryz.func112,Tryz.ntmps112
  go_wp2
  (refine wp_region_ext (by kernel_rfl) (by kernel_rfl) ?_;(repeat (go_big_quiet_step (first|fail)));refine mX ?_;intro w1 hb1 hc1 hf1 hz1;intros)
  go_wp2
  go_ret
  exact ⟨rfl,by exact below_auto⟩

theorem same_form (x:SpanV) (y:RK) (v:Bool) (hv:decide (x=N.RK.raw y)=v) (w:World) :
  Calls Tryz.prog 112 #[.agg #[.float .f64 x.lo,.float .f64 x.hi,.bool x.a,.bool x.b],.agg #[.float .f64 y.lo.bits,.float .f64 y.hi.bits,.bool false,.bool false]] w (Ret (.bool v) w):=by
 refine same_lit x.lo x.hi y.lo.bits y.hi.bits x.a x.b _ _ _ _ v w rfl rfl rfl rfl ?_
 rw [←hv]
 rcases x with ⟨lo,hi,a,b⟩
 by_cases h:(⟨lo,hi,a,b⟩:SpanV)=N.RK.raw y
 ·rw [decide_eq_true h]
  unfold N.RK.raw at h
  cases h
  have e1:feq y.lo.bits y.lo.bits=true:=by rw [feq_self,Key.bits_nan];rfl
  have e2:feq y.hi.bits y.hi.bits=true:=by rw [feq_self,Key.bits_nan];rfl
  simp [e1,e2]
 ·rw [decide_eq_false h]
  cases a <;> cases b <;> simp
  intro _ _ h3 h4
  apply h
  unfold N.RK.raw
  (try simp at h3)
  (try simp at h4)
  rw [show lo=y.lo.bits by omega,show hi=y.hi.bits by omega]

set_option maxHeartbeats 1000000 in
set_option maxRecDepth 100000 in
theorem equalS_any (a a':Option Addr) (c c' n n':Nat) (xs:List SpanV) (G:List RK) (v:Bool) (w:World) (hn:xs.length=n) (hn':G.length=n') (hx:SAt w a xs) (hy:SAt w a' (G.map N.RK.raw)) (hv:decide (xs=G.map N.RK.raw)=v) :
  Calls Tryz.prog 110 #[.slice a n c,.slice a' n' c',.func (.func 112) #[] #[]] w (Ret (.bool v) w):=by
 by_cases hnn:n=n'
 ·subst hnn
  have hb1:((n:Int) != (n:Int))=false:=by simp
  obtain ⟨hr,_,hm⟩:=hx
  obtain ⟨hr',_,_⟩:=hy
  unfold maxLen at hm
  rw [hn] at hm
  have HN:=hid hn;have HN':=hid hn';have HV:=hid hv
  clear hn hn' hv
  go_enter Tryz.func110,Tryz.ntmps110
  go_wp2
  go_loopw [17] (fun iv wr=>∃ k:Nat,k≤n∧iv=.int .i64 k∧Hid (∀ j,j<k→xs[j]? = (G.map N.RK.raw)[j]?)∧Below w.heap.size w wr) (fun iv _=>n-(intOf iv).toNat)
  case atStart=>exact ⟨0,Nat.zero_le _,rfl,hid fun j hj=>absurd hj (Nat.not_lt_zero _),Below.refl _ _⟩
  case round =>
   obtain ⟨k,hk,rfl,HR,hbw⟩:=hrel
   have hsz:=hbw.size
   by_cases hlt:k<n
   ·have hlt':(k:Int)<(n:Int):=by omega
    have k1:k<xs.length:=by rw [HN.out];exact hlt
    have k2:k<(G.map N.RK.raw).length:=by rw [List.length_map,HN'.out];exact hlt
    rcases hr with h0|⟨b,o,rfl,hb,hc⟩
    ·rw [h0] at k1;simp at k1
    rcases hr' with h0|⟨b',o',rfl,hb',hc'⟩
    ·rw [h0] at k2;simp at k2
    obtain ⟨c0,c1,c2,c3⟩:=hc k k1
    obtain ⟨e0,e1,e2,e3⟩:=hc' k k2
    have hxs:=hid (sp_some k1)
    have hg0:G[k]? = some (G[k]?.getD default):=by rw [List.getElem?_eq_getElem (by rw [HN'.out];exact hlt)];rfl
    have hys:Hid ((G.map N.RK.raw)[k]? = some (N.RK.raw (G[k]?.getD default))):=hid (by rw [List.getElem?_map,hg0];rfl)
    have hgd:(G.map N.RK.raw)[k]?.getD default=N.RK.raw (G[k]?.getD default):=by rw [hys.out];rfl
    rw [hgd] at e0 e1 e2 e3
    have kk:=fun j=>hbw.cell (p:=⟨b,j,none⟩) hb
    have kk':=fun j=>hbw.cell (p:=⟨b',j,none⟩) hb'
    have d0:=(kk _).trans c0;have d1:=(kk _).trans c1;have d2:=(kk _).trans c2;have d3:=(kk _).trans c3
    have f0:=(kk' _).trans e0;have f1:=(kk' _).trans e1;have f2:=(kk' _).trans e2;have f3:=(kk' _).trans e3
    clear c0 c1 c2 c3 e0 e1 e2 e3 kk kk' hc hc' k1 k2 hgd hg0
    generalize xs[k]?.getD default=x at *
    generalize G[k]?.getD default=y at *
    have hbl:b<wr.heap.size:=by omega
    have hbl':b'<wr.heap.size:=by omega
    have HY:N.RK.raw y=⟨y.lo.bits,y.hi.bits,false,false⟩:=rfl
    simp only [HY] at f0 f1 f2 f3
    cases hp:decide (x=N.RK.raw y)
    ·have H:=fun W=>same_form x y false hp W
     have Hv:Hid (v=false):=hid (by
      rw [←HV.out,decide_eq_false_iff_not]
      intro h
      have h1:=hxs.out
      rw [h,hys.out] at h1
      exact (of_decide_eq_false hp) (Option.some.inj h1).symm)
     clear hp HY
     go_wp2_with (go_at_call 112;with_reducible refine mQ (H _) ?_;intro w1 hb1 hc1 hf1 hz1;intros;(try have hu1_wr_0:wr.heap.size<w1.heap.size:=by omega);(try have hu1_wr_1:wr.heap.size+1<w1.heap.size:=by omega))
     go_ret
     exact ⟨ret_bool (by rw [Hv.out]),by exact below_auto⟩
    ·have hxy:x=N.RK.raw y:=of_decide_eq_true hp
     have H:=fun W=>same_form x y true hp W
     have HR2:Hid (∀ j,j<k+1→xs[j]? = (G.map N.RK.raw)[j]?):=hid fun j hj=>by
      by_cases h:j<k
      ·exact HR.out j h
      ·obtain rfl:j=k:=by omega
       rw [hxs.out,hys.out,hxy]
     clear hp hxy HY
     go_wp2_with (go_at_call 112;with_reducible refine mQ (H _) ?_;intro w1 hb1 hc1 hf1 hz1;intros;(try have hu1_wr_0:wr.heap.size<w1.heap.size:=by omega);(try have hu1_wr_1:wr.heap.size+1<w1.heap.size:=by omega))
     go_roundw
     case rel=>exact ⟨k+1,by omega,by go_num,HR2,by exact below_auto⟩
     case measure=>simp [intOf];omega
   ·obtain rfl:k=n:=by omega
    have Hv:Hid (v=true):=hid (by
     rw [←HV.out,decide_eq_true_eq]
     apply List.ext_getElem?
     intro j
     by_cases hj:j<k
     ·exact HR.out j hj
     ·rw [List.getElem?_eq_none (by rw [HN.out];omega),List.getElem?_eq_none (by rw [List.length_map,HN'.out];omega)])
    go_wp2
    go_ret
    exact ⟨ret_bool (by rw [Hv.out]),by exact below_auto⟩
 ·have hb1:((n:Int) != (n':Int))=true:=by simp;omega
  have Hv:Hid (v=false):=hid (by
   rw [←hv,decide_eq_false_iff_not]
   intro h
   rw [h,List.length_map] at hn;omega)
  clear hv hx hy hn hn'
  go_enter Tryz.func110,Tryz.ntmps110
  go_wp2
  go_ret
  exact ⟨ret_bool (by rw [Hv.out]),by exact below_auto⟩

def okN (n m:Int):Bool:=decide (m≤n) && decide (n≤1099511627776)
theorem number_any (n m:Int) (v:Bool) (hv:okN n m=v) (w:World) :
  Calls Tryz.prog 178 #[.int .i64 n,.int .i64 m] w fun e w'=>e=.returned (.bool v)∧w=w':=by
 subst hv
 unfold okN
 cases h1:decide (m≤n)
 ·go_enter Tryz.func178,Tryz.ntmps178
  go_wp2
  go_ret
  exact ⟨rfl,rfl⟩
 ·go_enter Tryz.func178,Tryz.ntmps178
  go_wp2
  go_ret
  exact ⟨rfl,rfl⟩

theorem numbers_any (s0 s1 s2:Int) (ra sa wa:Option Addr) (n1 n2 n3 rc sc wc:Nat) (v:Bool) (hv:(okN s0 1 && okN s1 1 && okN s2 0)=v) (w:World) :
  Calls Tryz.prog 103 #[.agg #[.int .i64 s0,.int .i64 s1,.int .i64 s2,.slice ra n1 rc,.slice sa n2 sc,.slice wa n3 wc]] w (Ret (.bool v) w):=by
 subst hv
 cases h1:okN s0 1 <;> cases h2:okN s1 1 <;> cases h3:okN s2 0
 all_goals
  have H1:=fun W=>number_any s0 1 _ h1 W
  have H2:=fun W=>number_any s1 1 _ h2 W
  have H3:=fun W=>number_any s2 0 _ h3 W
  clear h1 h2 h3
  go_enter Tryz.func103,Tryz.ntmps103
  go_wp2_with (first|(go_at_call 178;(with_reducible refine (H1 _).mono ?_);rintro e w' ⟨rfl,rfl⟩)|(go_at_call 178;(with_reducible refine (H2 _).mono ?_);rintro e w' ⟨rfl,rfl⟩)|(go_at_call 178;(with_reducible refine (H3 _).mono ?_);rintro e w' ⟨rfl,rfl⟩))
  go_ret
  exact ⟨rfl,by exact below_auto⟩
theorem many_any (s0 s1 s2:Int) (ra sa wa:Option Addr) (n1 n2 n3 rc sc wc:Nat) (v:Bool) (hv:(decide (16<n1)||decide (8<n2)||decide (16<n3))=v) (w:World) :
  Calls Tryz.prog 104 #[.agg #[.int .i64 s0,.int .i64 s1,.int .i64 s2,.slice ra n1 rc,.slice sa n2 sc,.slice wa n3 wc]] w (Ret (.bool v) w):=by
 subst hv
 cases h1:decide (16<n1) <;> cases h2:decide (8<n2) <;> cases h3:decide (16<n3)
 all_goals
  simp only [decide_eq_true_eq,decide_eq_false_iff_not] at h1 h2 h3
  have g1:=h1;have g2:=h2;have g3:=h3
  (try replace g1:(16:Int)<(n1:Int):=by omega)
  (try replace g1:¬(16:Int)<(n1:Int):=by omega)
  (try replace g2:(8:Int)<(n2:Int):=by omega)
  (try replace g2:¬(8:Int)<(n2:Int):=by omega)
  (try replace g3:(16:Int)<(n3:Int):=by omega)
  (try replace g3:¬(16:Int)<(n3:Int):=by omega)
  clear h1 h2 h3
  go_enter Tryz.func104,Tryz.ntmps104
  go_wp2
  go_ret
  exact ⟨rfl,by exact below_auto⟩

def SubV.nb (x:SubV):Bool:=okN x.s0 1 && okN x.s1 1 && okN x.s2 0
def SubV.mb (x:SubV):Bool:=decide (16<x.rs.length)||decide (8<x.ss.length)||decide (16<x.ws.length)
def ordF (xs:List Nat):Bool:=decide (xs=bits (fsort xs))
def ordS (ss:List SpanV):Bool:=decide (ss=(refAllN [] (N.forms ss)).map N.RK.raw)
def hasE (ss:List SpanV):Bool:=ss.any fun s=>s.rg.isNone
def checkI (nb mb a1 a2 em o1 o2 o3:Bool):Int:=if nb=false then 43 else if mb=true then 3 else if (a1||a2)=true then 40 else if em=true then 41 else if (o1 && o2 && o3)=true then 0 else 42
def SubV.check (x:SubV):Int:=checkI (SubV.nb x) (SubV.mb x) (x.rs.any isNaN) (x.ws.any isNaN) (hasE x.ss) (ordF x.rs) (ordF x.ws) (ordS x.ss)
def FormsRow (G:List RK) (v:Value) (w:World):Prop:=∃ a c,v=.slice a G.length c∧SAt w a (G.map N.RK.raw)
theorem FormsRow.below {G:List RK} {v:Value} {w w':World} (h:FormsRow G v w) (hb:Below w.heap.size w w'):FormsRow G v w':=by
 obtain ⟨a,c,h1,h2⟩:=h
 exact ⟨a,c,h1,h2.below hb⟩

set_option maxHeartbeats 2000000 in
set_option maxRecDepth 100000 in
theorem check_w (s0 s1 s2:Int) (ra sa wa:Option Addr) (n1 n2 n3 rc sc wc:Nat) (G:List RK) (nb mb a1 a2 em o1 o2 o3:Bool) (w:World)
  (Hn:∀ W,Calls Tryz.prog 103 #[.agg #[.int .i64 s0,.int .i64 s1,.int .i64 s2,.slice ra n1 rc,.slice sa n2 sc,.slice wa n3 wc]] W (Ret (.bool nb) W))
  (Hm:∀ W,Calls Tryz.prog 104 #[.agg #[.int .i64 s0,.int .i64 s1,.int .i64 s2,.slice ra n1 rc,.slice sa n2 sc,.slice wa n3 wc]] W (Ret (.bool mb) W))
  (Ha1:∀ W,Below w.heap.size w W→Calls Tryz.prog 105 #[.slice ra n1 rc,.func (.func 106) #[] #[]] W (Ret (.bool a1) W))
  (Ha2:∀ W,Below w.heap.size w W→Calls Tryz.prog 105 #[.slice wa n3 wc,.func (.func 106) #[] #[]] W (Ret (.bool a2) W))
  (He:∀ W,Below w.heap.size w W→Calls Tryz.prog 107 #[.slice sa n2 sc,.func (.func 108) #[] #[]] W (Ret (.bool em) W))
  (Ho1:mb=false→∀ W,Below w.heap.size w W→Calls Tryz.prog 109 #[.slice ra n1 rc] W (Ret (.bool o1) W))
  (Ho2:mb=false→∀ W,Below w.heap.size w W→Calls Tryz.prog 109 #[.slice wa n3 wc] W (Ret (.bool o2) W))
  (HNm:mb=false→∀ W,Below w.heap.size w W→Calls Tryz.prog 111 #[.slice sa n2 sc] W fun e W'=>∃ v,e=.returned v∧FormsRow G v W'∧Below W.heap.size W W')
  (HEq:∀ (v:Value) (W:World),FormsRow G v W→Below w.heap.size w W→Calls Tryz.prog 110 #[.slice sa n2 sc,v,.func (.func 112) #[] #[]] W (Ret (.bool o3) W)) :
  Calls Tryz.prog 46 #[.agg #[.int .i64 s0,.int .i64 s1,.int .i64 s2,.slice ra n1 rc,.slice sa n2 sc,.slice wa n3 wc]] w (Ret (.int .i64 (checkI nb mb a1 a2 em o1 o2 o3)) w):=by
 cases nb
 ·show Calls _ _ _ _ (Ret (.int .i64 43) w)
  clear Ho1 Ho2 HNm HEq
  go_enter Tryz.func46,Tryz.ntmps46
  go_wp2_with (first|(go_at_call 103;with_reducible refine mQ (Hn _) ?_;intro w1 hb1 hc1 hf1 hz1;intros)|(go_at_call 104;with_reducible refine mQ (Hm _) ?_;intro w2 hb2 hc2 hf2 hz2;intros)|(go_at_call 105;with_reducible refine mQ (Ha1 _ (by exact below_auto)) ?_;intro w3 hb3 hc3 hf3 hz3;intros)|(go_at_call 105;with_reducible refine mQ (Ha2 _ (by exact below_auto)) ?_;intro w3 hb3 hc3 hf3 hz3;intros)|(go_at_call 107;with_reducible refine mQ (He _ (by exact below_auto)) ?_;intro w4 hb4 hc4 hf4 hz4;intros))
  go_ret
  exact ⟨rfl,by exact below_auto⟩
 cases mb
 rotate_left
 ·show Calls _ _ _ _ (Ret (.int .i64 3) w)
  clear Ho1 Ho2 HNm HEq
  go_enter Tryz.func46,Tryz.ntmps46
  go_wp2_with (first|(go_at_call 103;with_reducible refine mQ (Hn _) ?_;intro w1 hb1 hc1 hf1 hz1;intros)|(go_at_call 104;with_reducible refine mQ (Hm _) ?_;intro w2 hb2 hc2 hf2 hz2;intros)|(go_at_call 105;with_reducible refine mQ (Ha1 _ (by exact below_auto)) ?_;intro w3 hb3 hc3 hf3 hz3;intros)|(go_at_call 105;with_reducible refine mQ (Ha2 _ (by exact below_auto)) ?_;intro w3 hb3 hc3 hf3 hz3;intros)|(go_at_call 107;with_reducible refine mQ (He _ (by exact below_auto)) ?_;intro w4 hb4 hc4 hf4 hz4;intros))
  go_ret
  exact ⟨rfl,by exact below_auto⟩
 cases a1
 rotate_left
 ·show Calls _ _ _ _ (Ret (.int .i64 40) w)
  clear Ho1 Ho2 HNm HEq
  go_enter Tryz.func46,Tryz.ntmps46
  go_wp2_with (first|(go_at_call 103;with_reducible refine mQ (Hn _) ?_;intro w1 hb1 hc1 hf1 hz1;intros)|(go_at_call 104;with_reducible refine mQ (Hm _) ?_;intro w2 hb2 hc2 hf2 hz2;intros)|(go_at_call 105;with_reducible refine mQ (Ha1 _ (by exact below_auto)) ?_;intro w3 hb3 hc3 hf3 hz3;intros)|(go_at_call 105;with_reducible refine mQ (Ha2 _ (by exact below_auto)) ?_;intro w3 hb3 hc3 hf3 hz3;intros)|(go_at_call 107;with_reducible refine mQ (He _ (by exact below_auto)) ?_;intro w4 hb4 hc4 hf4 hz4;intros))
  go_ret
  exact ⟨rfl,by exact below_auto⟩
 cases a2
 rotate_left
 ·show Calls _ _ _ _ (Ret (.int .i64 40) w)
  clear Ho1 Ho2 HNm HEq
  go_enter Tryz.func46,Tryz.ntmps46
  go_wp2_with (first|(go_at_call 103;with_reducible refine mQ (Hn _) ?_;intro w1 hb1 hc1 hf1 hz1;intros)|(go_at_call 104;with_reducible refine mQ (Hm _) ?_;intro w2 hb2 hc2 hf2 hz2;intros)|(go_at_call 105;with_reducible refine mQ (Ha1 _ (by exact below_auto)) ?_;intro w3 hb3 hc3 hf3 hz3;intros)|(go_at_call 105;with_reducible refine mQ (Ha2 _ (by exact below_auto)) ?_;intro w3 hb3 hc3 hf3 hz3;intros)|(go_at_call 107;with_reducible refine mQ (He _ (by exact below_auto)) ?_;intro w4 hb4 hc4 hf4 hz4;intros))
  go_ret
  exact ⟨rfl,by exact below_auto⟩
 cases em
 rotate_left
 ·show Calls _ _ _ _ (Ret (.int .i64 41) w)
  clear Ho1 Ho2 HNm HEq
  go_enter Tryz.func46,Tryz.ntmps46
  go_wp2_with (first|(go_at_call 103;with_reducible refine mQ (Hn _) ?_;intro w1 hb1 hc1 hf1 hz1;intros)|(go_at_call 104;with_reducible refine mQ (Hm _) ?_;intro w2 hb2 hc2 hf2 hz2;intros)|(go_at_call 105;with_reducible refine mQ (Ha1 _ (by exact below_auto)) ?_;intro w3 hb3 hc3 hf3 hz3;intros)|(go_at_call 105;with_reducible refine mQ (Ha2 _ (by exact below_auto)) ?_;intro w3 hb3 hc3 hf3 hz3;intros)|(go_at_call 107;with_reducible refine mQ (He _ (by exact below_auto)) ?_;intro w4 hb4 hc4 hf4 hz4;intros))
  go_ret
  exact ⟨rfl,by exact below_auto⟩
 replace Ho1:=Ho1 rfl
 replace Ho2:=Ho2 rfl
 replace HNm:=HNm rfl
 cases o1
 ·show Calls _ _ _ _ (Ret (.int .i64 42) w)
  clear Ho2 HNm HEq
  go_enter Tryz.func46,Tryz.ntmps46
  go_upto_region 9 with (first|(go_at_call 103;with_reducible refine mQ (Hn _) ?_;intro w1 hb1 hc1 hf1 hz1;intros)|(go_at_call 104;with_reducible refine mQ (Hm _) ?_;intro w2 hb2 hc2 hf2 hz2;intros)|(go_at_call 105;with_reducible refine mQ (Ha1 _ (by exact below_auto)) ?_;intro w3 hb3 hc3 hf3 hz3;intros)|(go_at_call 105;with_reducible refine mQ (Ha2 _ (by exact below_auto)) ?_;intro w3 hb3 hc3 hf3 hz3;intros)|(go_at_call 107;with_reducible refine mQ (He _ (by exact below_auto)) ?_;intro w4 hb4 hc4 hf4 hz4;intros))
  have hbw:Below w.heap.size w w4:=by exact below_auto
  have hz:=hbw.size
  have hK:∀ X:Ext w4,Below w.heap.size w X.w:=fun X=>hbw.trans (X.b.mono hz)
  (refine wp_region_ext (by kernel_rfl) (by kernel_rfl) ?_;(repeat (go_big_quiet_step (first|(go_at_call 109;with_reducible exact Calls.ext_of (Ho1 _ (hK _))))));refine mX ?_;intro w5 hb5 hc5 hf5 hz5;intros;(try have hu5_w4_0:w4.heap.size<w5.heap.size:=by omega);(try have hu5_w4_1:w4.heap.size+1<w5.heap.size:=by omega))
  go_wp2_with fail
  go_ret
  exact ⟨rfl,by exact below_auto⟩
 cases o2
 ·show Calls _ _ _ _ (Ret (.int .i64 42) w)
  clear HNm HEq
  go_enter Tryz.func46,Tryz.ntmps46
  go_upto_region 9 with (first|(go_at_call 103;with_reducible refine mQ (Hn _) ?_;intro w1 hb1 hc1 hf1 hz1;intros)|(go_at_call 104;with_reducible refine mQ (Hm _) ?_;intro w2 hb2 hc2 hf2 hz2;intros)|(go_at_call 105;with_reducible refine mQ (Ha1 _ (by exact below_auto)) ?_;intro w3 hb3 hc3 hf3 hz3;intros)|(go_at_call 105;with_reducible refine mQ (Ha2 _ (by exact below_auto)) ?_;intro w3 hb3 hc3 hf3 hz3;intros)|(go_at_call 107;with_reducible refine mQ (He _ (by exact below_auto)) ?_;intro w4 hb4 hc4 hf4 hz4;intros))
  have hbw:Below w.heap.size w w4:=by exact below_auto
  have hz:=hbw.size
  have hK:∀ X:Ext w4,Below w.heap.size w X.w:=fun X=>hbw.trans (X.b.mono hz)
  (refine wp_region_ext (by kernel_rfl) (by kernel_rfl) ?_;(repeat (go_big_quiet_step (first|(go_at_call 109;with_reducible exact Calls.ext_of (Ho1 _ (hK _)))|(go_at_call 109;with_reducible exact Calls.ext_of (Ho2 _ (hK _))))));refine mX ?_;intro w5 hb5 hc5 hf5 hz5;intros;(try have hu5_w4_0:w4.heap.size<w5.heap.size:=by omega);(try have hu5_w4_1:w4.heap.size+1<w5.heap.size:=by omega))
  go_wp2_with fail
  go_ret
  exact ⟨rfl,by exact below_auto⟩
 cases o3
 ·show Calls _ _ _ _ (Ret (.int .i64 42) w)
  go_enter Tryz.func46,Tryz.ntmps46
  go_upto_region 9 with (first|(go_at_call 103;with_reducible refine mQ (Hn _) ?_;intro w1 hb1 hc1 hf1 hz1;intros)|(go_at_call 104;with_reducible refine mQ (Hm _) ?_;intro w2 hb2 hc2 hf2 hz2;intros)|(go_at_call 105;with_reducible refine mQ (Ha1 _ (by exact below_auto)) ?_;intro w3 hb3 hc3 hf3 hz3;intros)|(go_at_call 105;with_reducible refine mQ (Ha2 _ (by exact below_auto)) ?_;intro w3 hb3 hc3 hf3 hz3;intros)|(go_at_call 107;with_reducible refine mQ (He _ (by exact below_auto)) ?_;intro w4 hb4 hc4 hf4 hz4;intros))
  have hbw:Below w.heap.size w w4:=by exact below_auto
  have hz:=hbw.size
  refine wp_region_notesG [Note.val (.pointer (some ⟨w.heap.size,3,none⟩)),Note.val (.slice ra n1 rc),Note.val (.bool true),Note.val (.bool false),Note.val (.bool false),Note.val (.pointer (some ⟨w.heap.size,5,none⟩)),Note.val (.slice wa n3 wc),Note.val (.bool true),Note.val (.bool false),Note.val (.bool false),Note.val (.bool false),Note.val (.pointer (some ⟨w.heap.size,4,none⟩)),Note.val (.slice sa n2 sc),Note.val (.pointer (some ⟨w.heap.size,4,none⟩)),Note.val (.slice sa n2 sc),Note.fits (FormsRow G) (fun _ _ _ h hb=>h.below hb),Note.val (.bool false),Note.val (.bool true),Note.val (.bool true),Note.val (.bool true)] rfl (by kernel_rfl) (by kernel_rfl) ?_ ?_
  ·simp only [List.length_cons,List.length_nil,Nat.reduceAdd,List.take_succ_cons,List.take_zero,StepsG,List.nil_append,List.cons_append]
   refine ⟨?_,?_,?_,?_,?_,?_,?_,?_,?_,?_,?_,?_,?_,?_,?_,?_,?_,?_,?_,?_,trivial⟩
   ·exact mGq
   ·exact mGq
   ·refine mG ?_;intro u w5 hb5;intros;obtain ⟨hc5,hf5⟩:=bcell hb5;have hz5:=hb5.size
    go_wp2_with (go_at_call 109;(with_reducible refine (Ho1 _ (by exact below_auto)).mono ?_);rintro e wy ⟨rfl,hby⟩)
    exact ⟨rfl,by exact below_auto,rfl⟩
   ·exact mGq
   ·exact mGq
   ·exact mGq
   ·exact mGq
   ·refine mG ?_;intro u w5 hb5;intros;obtain ⟨hc5,hf5⟩:=bcell hb5;have hz5:=hb5.size
    go_wp2_with (go_at_call 109;(with_reducible refine (Ho2 _ (by exact below_auto)).mono ?_);rintro e wy ⟨rfl,hby⟩)
    exact ⟨rfl,by exact below_auto,rfl⟩
   ·exact mGq
   ·exact mGq
   ·exact mGq
   ·exact mGq
   ·exact mGq
   ·exact mGq
   ·exact mGq
   ·refine mG ?_;intro u w5 hb5;intros;obtain ⟨hc5,hf5⟩:=bcell hb5;have hz5:=hb5.size
    go_wp2_with (go_at_call 111;(with_reducible refine (HNm _ (by exact below_auto)).mono ?_);rintro e wy ⟨vy,rfl,hpy,hby⟩)
    exact ⟨rfl,by exact below_auto,by assumption⟩
   ·refine mG ?_;intro u w5 hb5;intros;obtain ⟨hc5,hf5⟩:=bcell hb5;have hz5:=hb5.size
    go_wp2_with (go_at_call 110;(with_reducible refine (HEq _ _ (by assumption) (by exact below_auto)).mono ?_);rintro e wy ⟨rfl,hby⟩)
    exact ⟨rfl,by exact below_auto,rfl⟩
   ·exact mGq
   ·exact mGq
   ·exact mGq
  ·intro u w5 hb5 hph hap
   obtain ⟨hc5,hf5⟩:=bcell hb5
   have hz5:=hb5.size
   have hp0:=hph 0 (by simp)
   have hp1:=hph 1 (by simp)
   have hp2:=hph 2 (by simp)
   have hp3:=hph 3 (by simp)
   have hp4:=hph 4 (by simp)
   have hp5:=hph 5 (by simp)
   have hp6:=hph 6 (by simp)
   have hp7:=hph 7 (by simp)
   have hp8:=hph 8 (by simp)
   have hp9:=hph 9 (by simp)
   have hp10:=hph 10 (by simp)
   have hp11:=hph 11 (by simp)
   have hp12:=hph 12 (by simp)
   have hp13:=hph 13 (by simp)
   have hp14:=hph 14 (by simp)
   have hp15:=hph 15 (by simp)
   have hp16:=hph 16 (by simp)
   have hp17:=hph 17 (by simp)
   have hp18:=hph 18 (by simp)
   have hp19:=hph 19 (by simp)
   clear hph hap
   refine mP ?_
   generalize u 0=u0 at *
   cases hp0
   generalize u 1=u1 at *
   cases hp1
   generalize u 2=u2 at *
   cases hp2
   generalize u 3=u3 at *
   cases hp3
   generalize u 4=u4 at *
   cases hp4
   generalize u 5=u5 at *
   cases hp5
   generalize u 6=u6 at *
   cases hp6
   generalize u 7=u7 at *
   cases hp7
   generalize u 8=u8 at *
   cases hp8
   generalize u 9=u9 at *
   cases hp9
   generalize u 10=u10 at *
   cases hp10
   generalize u 11=u11 at *
   cases hp11
   generalize u 12=u12 at *
   cases hp12
   generalize u 13=u13 at *
   cases hp13
   generalize u 14=u14 at *
   cases hp14
   generalize u 15=u15 at *
   have hp15:(FormsRow G) u15 w5:=hp15
   generalize u 16=u16 at *
   cases hp16
   generalize u 17=u17 at *
   cases hp17
   generalize u 18=u18 at *
   cases hp18
   generalize u 19=u19 at *
   cases hp19
   clear u
   go_wp2_with fail
   go_ret
   exact ⟨rfl,by exact below_auto⟩
 ·show Calls _ _ _ _ (Ret (.int .i64 0) w)
  go_enter Tryz.func46,Tryz.ntmps46
  go_upto_region 9 with (first|(go_at_call 103;with_reducible refine mQ (Hn _) ?_;intro w1 hb1 hc1 hf1 hz1;intros)|(go_at_call 104;with_reducible refine mQ (Hm _) ?_;intro w2 hb2 hc2 hf2 hz2;intros)|(go_at_call 105;with_reducible refine mQ (Ha1 _ (by exact below_auto)) ?_;intro w3 hb3 hc3 hf3 hz3;intros)|(go_at_call 105;with_reducible refine mQ (Ha2 _ (by exact below_auto)) ?_;intro w3 hb3 hc3 hf3 hz3;intros)|(go_at_call 107;with_reducible refine mQ (He _ (by exact below_auto)) ?_;intro w4 hb4 hc4 hf4 hz4;intros))
  have hbw:Below w.heap.size w w4:=by exact below_auto
  have hz:=hbw.size
  refine wp_region_notesG [Note.val (.pointer (some ⟨w.heap.size,3,none⟩)),Note.val (.slice ra n1 rc),Note.val (.bool true),Note.val (.bool false),Note.val (.bool false),Note.val (.pointer (some ⟨w.heap.size,5,none⟩)),Note.val (.slice wa n3 wc),Note.val (.bool true),Note.val (.bool false),Note.val (.bool false),Note.val (.bool false),Note.val (.pointer (some ⟨w.heap.size,4,none⟩)),Note.val (.slice sa n2 sc),Note.val (.pointer (some ⟨w.heap.size,4,none⟩)),Note.val (.slice sa n2 sc),Note.fits (FormsRow G) (fun _ _ _ h hb=>h.below hb),Note.val (.bool true),Note.val (.bool false),Note.val (.bool false),Note.val (.bool false)] rfl (by kernel_rfl) (by kernel_rfl) ?_ ?_
  ·simp only [List.length_cons,List.length_nil,Nat.reduceAdd,List.take_succ_cons,List.take_zero,StepsG,List.nil_append,List.cons_append]
   refine ⟨?_,?_,?_,?_,?_,?_,?_,?_,?_,?_,?_,?_,?_,?_,?_,?_,?_,?_,?_,?_,trivial⟩
   ·exact mGq
   ·exact mGq
   ·refine mG ?_;intro u w5 hb5;intros;obtain ⟨hc5,hf5⟩:=bcell hb5;have hz5:=hb5.size
    go_wp2_with (go_at_call 109;(with_reducible refine (Ho1 _ (by exact below_auto)).mono ?_);rintro e wy ⟨rfl,hby⟩)
    exact ⟨rfl,by exact below_auto,rfl⟩
   ·exact mGq
   ·exact mGq
   ·exact mGq
   ·exact mGq
   ·refine mG ?_;intro u w5 hb5;intros;obtain ⟨hc5,hf5⟩:=bcell hb5;have hz5:=hb5.size
    go_wp2_with (go_at_call 109;(with_reducible refine (Ho2 _ (by exact below_auto)).mono ?_);rintro e wy ⟨rfl,hby⟩)
    exact ⟨rfl,by exact below_auto,rfl⟩
   ·exact mGq
   ·exact mGq
   ·exact mGq
   ·exact mGq
   ·exact mGq
   ·exact mGq
   ·exact mGq
   ·refine mG ?_;intro u w5 hb5;intros;obtain ⟨hc5,hf5⟩:=bcell hb5;have hz5:=hb5.size
    go_wp2_with (go_at_call 111;(with_reducible refine (HNm _ (by exact below_auto)).mono ?_);rintro e wy ⟨vy,rfl,hpy,hby⟩)
    exact ⟨rfl,by exact below_auto,by assumption⟩
   ·refine mG ?_;intro u w5 hb5;intros;obtain ⟨hc5,hf5⟩:=bcell hb5;have hz5:=hb5.size
    go_wp2_with (go_at_call 110;(with_reducible refine (HEq _ _ (by assumption) (by exact below_auto)).mono ?_);rintro e wy ⟨rfl,hby⟩)
    exact ⟨rfl,by exact below_auto,rfl⟩
   ·exact mGq
   ·exact mGq
   ·exact mGq
  ·intro u w5 hb5 hph hap
   obtain ⟨hc5,hf5⟩:=bcell hb5
   have hz5:=hb5.size
   have hp0:=hph 0 (by simp)
   have hp1:=hph 1 (by simp)
   have hp2:=hph 2 (by simp)
   have hp3:=hph 3 (by simp)
   have hp4:=hph 4 (by simp)
   have hp5:=hph 5 (by simp)
   have hp6:=hph 6 (by simp)
   have hp7:=hph 7 (by simp)
   have hp8:=hph 8 (by simp)
   have hp9:=hph 9 (by simp)
   have hp10:=hph 10 (by simp)
   have hp11:=hph 11 (by simp)
   have hp12:=hph 12 (by simp)
   have hp13:=hph 13 (by simp)
   have hp14:=hph 14 (by simp)
   have hp15:=hph 15 (by simp)
   have hp16:=hph 16 (by simp)
   have hp17:=hph 17 (by simp)
   have hp18:=hph 18 (by simp)
   have hp19:=hph 19 (by simp)
   clear hph hap
   refine mP ?_
   generalize u 0=u0 at *
   cases hp0
   generalize u 1=u1 at *
   cases hp1
   generalize u 2=u2 at *
   cases hp2
   generalize u 3=u3 at *
   cases hp3
   generalize u 4=u4 at *
   cases hp4
   generalize u 5=u5 at *
   cases hp5
   generalize u 6=u6 at *
   cases hp6
   generalize u 7=u7 at *
   cases hp7
   generalize u 8=u8 at *
   cases hp8
   generalize u 9=u9 at *
   cases hp9
   generalize u 10=u10 at *
   cases hp10
   generalize u 11=u11 at *
   cases hp11
   generalize u 12=u12 at *
   cases hp12
   generalize u 13=u13 at *
   cases hp13
   generalize u 14=u14 at *
   cases hp14
   generalize u 15=u15 at *
   have hp15:(FormsRow G) u15 w5:=hp15
   generalize u 16=u16 at *
   cases hp16
   generalize u 17=u17 at *
   cases hp17
   generalize u 18=u18 at *
   cases hp18
   generalize u 19=u19 at *
   cases hp19
   clear u
   go_wp2_with fail
   go_ret
   exact ⟨rfl,by exact below_auto⟩

end Go.Proofs.YtdeeoddacnealaaGreat.K