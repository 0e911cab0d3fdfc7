/- Several texts as one: S2 S3. -/
import Derived.Test.YtdeeoddacnealaaGreatMR
import Derived.Test.YtdeeoddacnealaaGreatMB
set_option linter.unusedVariables false
namespace Go.Proofs.YtdeeoddacnealaaGreat
open Go.RowKit Fl

theorem covers1_any (lo hi:Nat) (a b:Bool) (B key:Nat) (w:World) (hl:lo<2 ^ 64) (hh:hi<2 ^ 64) (hB:B<w.heap.size) (hk:w.cell? ⟨B,0,none⟩=some (.float .f64 key)) :
  Calls Tryz.prog 262 #[.agg #[.float .f64 lo,.float .f64 hi,.bool a,.bool b],.pointer (some ⟨B,0,none⟩)] w (Ret (.bool (hasB (canonS lo hi a b) key)) w):=by
 have H:=fun W=>has_is lo hi a b key _ W hl hh (hid rfl)
 generalize hasB (canonS lo hi a b) key=v at *
 have hBs:B<w.heap.size+1:=by omega
 go_enter Tryz.func262,Tryz.ntmps262
 go_wp2_with (go_at_call 230;with_reducible refine mQ (H _) ?_;intro w1 hb1 hc1 hf1 hz1;intros)
 go_ret
 exact ⟨rfl,by exact below_auto⟩

theorem slIndexFuncS_any (a:Option Addr) (c B key:Nat) (ss:List SpanV) (n:Nat) (w:World) (hn:ss.length=n) (h:SAt w a ss) (hB:B<w.heap.size) (hk:w.cell? ⟨B,0,none⟩=some (.float .f64 key)) :
  Calls Tryz.prog 180 #[.slice a n c,.func (.func 262) #[] #[.pointer (some ⟨B,0,none⟩)]] w (Ret (.int .i64 (idxB (fun s=>hasB s.rg key) ss)) w):=by
 obtain ⟨hr,hl,hm⟩:=h
 unfold maxLen at hm
 rcases hr with rfl|⟨b,o,rfl,hb,hc⟩
 ·simp only [List.length_nil] at hn
  subst hn
  have e:idxB (fun s:SpanV=>hasB s.rg key) [] = -1:=rfl
  rw [e]
  clear hl e hk
  go_enter Tryz.func180,Tryz.ntmps180
  go_wp2
  go_loop [8] (fun i=>i=.int .i64 0) (fun _=>0)
  case atStart=>rfl
  case round =>
   subst hrel
   go_wp2
   go_ret
   exact ⟨rfl,Below.refl _ _⟩
 ·have HC:=hid hc;have HN:=hid hn;have HL:=hid hl;have HK:=hid hk
  rw [hn] at hm
  clear hc hn hl hk
  go_enter Tryz.func180,Tryz.ntmps180
  go_wp2
  go_loopw [8] (fun i wr=>∃ k:Nat,k≤n∧i=.int .i64 k∧Hid (∀ j:Nat,j<k→∀ y,ss[j]? = some y→hasB y.rg key=false)∧Below w.heap.size w wr) (fun i _=>n-(intOf i).toNat)
  case atStart=>exact ⟨0,Nat.zero_le _,rfl,hid fun j hj=>absurd hj (Nat.not_lt_zero _),Below.refl _ _⟩
  case round =>
   obtain ⟨k,hk,rfl,HR,hbw⟩:=hrel
   by_cases hlt:k<n
   ·obtain ⟨c0,c1,c2,c3⟩:=HC.out k (by rw [HN.out];exact hlt)
    obtain ⟨l1,l2⟩:=HL.out k (by rw [HN.out];exact hlt)
    have hlt':(k:Int)<(n:Int):=by omega
    have hkx:=hid (sp_some (ss:=ss) (k:=k) (by rw [HN.out];exact hlt))
    have hsz:=hbw.size
    have kk:=fun j=>hbw.cell (p:=⟨b,j,none⟩) hb
    have d0:=(kk _).trans c0;have d1:=(kk _).trans c1;have d2:=(kk _).trans c2;have d3:=(kk _).trans c3
    have dk:=(hbw.cell (p:=⟨B,0,none⟩) hB).trans HK.out
    clear c0 c1 c2 c3 kk
    generalize hs:ss[k]?.getD default=s at *
    have hBw:B<wr.heap.size:=by omega
    have H:=covers1_any s.lo s.hi s.a s.b B key wr l1 l2 hBw dk
    clear dk hs
    cases hp:hasB (canonS s.lo s.hi s.a s.b) key
    ·rw [hp] at H
     have HP:=hid hp
     clear hp
     go_wp2_with (go_at_call 262;with_reducible refine mQ (H) ?_;intro w1 hb1 hc1 hf1 hz1;intros)
     go_roundw
     case rel=>exact ⟨k+1,by omega,by go_num,hid fun j hj y hy=>by
       by_cases h:j<k
       ·exact HR.out j h y hy
       ·obtain rfl:j=k:=by omega
        rw [hkx.out] at hy;cases hy;exact HP.out,by exact below_auto⟩
     case measure=>simp [intOf];omega
    ·rw [hp] at H
     have HP:=hid hp
     clear hp
     go_wp2_with (go_at_call 262;with_reducible refine mQ (H) ?_;intro w1 hb1 hc1 hf1 hz1;intros)
     go_ret
     exact ⟨ret_int (by rw [idxB_some (p:=fun s=>hasB s.rg key) hkx.out HP.out HR.out]),by exact below_auto⟩
   ·obtain rfl:k=n:=by omega
    go_wp2
    go_ret
    refine ⟨ret_int ?_,by exact below_auto⟩
    rw [idxB_none]
    intro i x hx
    refine HR.out i ?_ x hx
    have:=(List.getElem?_eq_some_iff.1 hx).1
    have:=HN.out
    omega

theorem slContainsFuncS_any (a:Option Addr) (c B key:Nat) (ss:List SpanV) (n:Nat) (w:World) (hn:ss.length=n) (h:SAt w a ss) (hB:B<w.heap.size) (hk:w.cell? ⟨B,0,none⟩=some (.float .f64 key)) :
  Calls Tryz.prog 107 #[.slice a n c,.func (.func 262) #[] #[.pointer (some ⟨B,0,none⟩)]] w (Ret (.bool (ss.any fun s=>hasB s.rg key)) w):=by
 have H:=slIndexFuncS_any a c B key ss n w hn h hB hk
 rw [←idxB_any]
 generalize idxB (fun s:SpanV=>hasB s.rg key) ss=r at *
 have hn':=hid hn;have hk':=hid hk
 clear hn hk
 go_enter Tryz.func107,Tryz.ntmps107
 go_wp2_with (go_at_call 180;with_reducible refine mQ (H) ?_;intro w1 hb1 hc1 hf1 hz1;intros)
 go_ret
 exact ⟨rfl,by exact below_auto⟩

theorem covers_any (a:Option Addr) (c key:Nat) (ss:List SpanV) (n:Nat) (w:World) (hn:ss.length=n) (h:SAt w a ss) :
  Calls Tryz.prog 232 #[.slice a n c,.float .f64 key] w (Ret (.bool (ss.any fun s=>hasB s.rg key)) w):=by
 have H:=fun W hB hk=>slContainsFuncS_any a c w.heap.size key ss n (w.alloc W) hn (h.below ((Below.refl _ _).alloc (Nat.le_refl _) _)) hB hk
 generalize (ss.any fun s=>hasB s.rg key)=r at *
 have hn':=hid hn
 clear hn
 go_enter Tryz.func232,Tryz.ntmps232
 go_wp2_with (go_at_call 107;with_reducible refine mQ (H _ (by simp) (by go_simp)) ?_;intro w1 hb1 hc1 hf1 hz1;intros)
 go_ret
 exact ⟨rfl,by exact below_auto⟩

theorem subReads_any (x:SubV) (key:Nat) (w:World) (h:x.At w) :
  Calls Tryz.prog 192 #[.agg #[.int .i64 x.s0,.int .i64 x.s1,.int .i64 x.s2,.slice x.ra x.rs.length x.rc,.slice x.sa x.ss.length x.sc,.slice x.wa x.ws.length x.wc],.float .f64 key] w (Ret (.bool (x.reads key)) w):=by
 have H1:=fun W (hb:Below w.heap.size w W)=>slContains_any x.ra x.rc key x.rs x.rs.length W rfl (h.r.below hb)
 have H2:=fun W (hb:Below w.heap.size w W)=>covers_any x.sa x.sc key x.ss x.ss.length W rfl (h.s.below hb)
 unfold SubV.reads
 generalize (x.rs.any fun k=>feq key k)=v1 at *
 generalize (x.ss.any fun s=>hasB s.rg key)=v2 at *
 generalize x.rs.length=n1 at *
 generalize x.ss.length=n2 at *
 generalize x.ws.length=n3 at *
 cases v1
 ·go_enter Tryz.func192,Tryz.ntmps192
  go_wp2_with (first|(go_at_call 190;(with_reducible refine (H1 _ (by exact below_auto)).mono ?_);rintro e w' ⟨rfl,rfl⟩)|(go_at_call 232;with_reducible refine mQ (H2 _ (by exact below_auto)) ?_;intro w1 hb1 hc1 hf1 hz1;intros))
  go_ret
  exact ⟨rfl,by exact below_auto⟩
 ·go_enter Tryz.func192,Tryz.ntmps192
  go_wp2_with (first|(go_at_call 190;(with_reducible refine (H1 _ (by exact below_auto)).mono ?_);rintro e w' ⟨rfl,rfl⟩)|(go_at_call 232;with_reducible refine mQ (H2 _ (by exact below_auto)) ?_;intro w1 hb1 hc1 hf1 hz1;intros))
  go_ret
  exact ⟨rfl,by exact below_auto⟩

theorem subWrites_any (x:SubV) (key:Nat) (w:World) (h:x.At w) :
  Calls Tryz.prog 115 #[.agg #[.int .i64 x.s0,.int .i64 x.s1,.int .i64 x.s2,.slice x.ra x.rs.length x.rc,.slice x.sa x.ss.length x.sc,.slice x.wa x.ws.length x.wc],.float .f64 key] w (Ret (.bool (x.writes key)) w):=by
 have H1:=fun W (hb:Below w.heap.size w W)=>slContains_any x.wa x.wc key x.ws x.ws.length W rfl (h.w.below hb)
 unfold SubV.writes
 generalize (x.ws.any fun k=>feq key k)=v1 at *
 generalize x.rs.length=n1 at *
 generalize x.ss.length=n2 at *
 generalize x.ws.length=n3 at *
 go_enter Tryz.func115,Tryz.ntmps115
 go_wp2_with (go_at_call 190;(with_reducible refine (H1 _ (by exact below_auto)).mono ?_);rintro e w' ⟨rfl,rfl⟩)
 go_ret
 exact ⟨rfl,by exact below_auto⟩

theorem cells6 {w:World} {x0 x1 x2 x3 x4 x5:Value} {T:TypeId} {wr:World} (h:Below (w.heap.size+1) (w.alloc (.cells #[x0,x1,x2,x3,x4,x5] T (0,0))) wr) :
  wr.cell? ⟨w.heap.size,0,none⟩=some x0∧wr.cell? ⟨w.heap.size,1,none⟩=some x1∧wr.cell? ⟨w.heap.size,2,none⟩=some x2∧wr.cell? ⟨w.heap.size,3,none⟩=some x3∧wr.cell? ⟨w.heap.size,4,none⟩=some x4∧wr.cell? ⟨w.heap.size,5,none⟩=some x5:=by
 have k:=fun j=>h.cell (p:=⟨w.heap.size,j,none⟩) (Nat.lt_succ_self _)
 refine ⟨(k 0).trans ?_,(k 1).trans ?_,(k 2).trans ?_,(k 3).trans ?_,(k 4).trans ?_,(k 5).trans ?_⟩ <;> go_simp

theorem meets1_any (x:SubV) (key B:Nat) (w:World) (h:x.At w) (hB:B<w.heap.size)
  (h0:w.cell? ⟨B,0,none⟩=some (.int .i64 x.s0)) (h1:w.cell? ⟨B,1,none⟩=some (.int .i64 x.s1)) (h2:w.cell? ⟨B,2,none⟩=some (.int .i64 x.s2))
  (h3:w.cell? ⟨B,3,none⟩=some (.slice x.ra x.rs.length x.rc)) (h4:w.cell? ⟨B,4,none⟩=some (.slice x.sa x.ss.length x.sc)) (h5:w.cell? ⟨B,5,none⟩=some (.slice x.wa x.ws.length x.wc)) :
  Calls Tryz.prog 191 #[.float .f64 key,.pointer (some ⟨B,0,none⟩)] w (Ret (.bool (x.reads key)) w):=by
 have H:=subReads_any x key w h
 generalize x.reads key=v at *
 obtain ⟨s0,s1,s2,ra,rc,rs,sa,sc,ss,wa,wc,ws⟩:=x
 simp only at *
 clear h
 generalize rs.length=n1 at *
 generalize ss.length=n2 at *
 generalize ws.length=n3 at *
 go_enter Tryz.func191,Tryz.ntmps191
 go_wp2_with (go_at_call 192;with_reducible refine mQ (H) ?_;intro w1 hb1 hc1 hf1 hz1;intros)
 go_ret
 exact ⟨rfl,by exact below_auto⟩

theorem slIndexFuncF_any (x:SubV) (a:Option Addr) (c B:Nat) (xs:List Nat) (n:Nat) (w:World) (hn:xs.length=n) (h:FAt w a xs) (hx:x.At w) (hB:B<w.heap.size)
  (h0:w.cell? ⟨B,0,none⟩=some (.int .i64 x.s0)) (h1:w.cell? ⟨B,1,none⟩=some (.int .i64 x.s1)) (h2:w.cell? ⟨B,2,none⟩=some (.int .i64 x.s2))
  (h3:w.cell? ⟨B,3,none⟩=some (.slice x.ra x.rs.length x.rc)) (h4:w.cell? ⟨B,4,none⟩=some (.slice x.sa x.ss.length x.sc)) (h5:w.cell? ⟨B,5,none⟩=some (.slice x.wa x.ws.length x.wc)) :
  Calls Tryz.prog 179 #[.slice a n c,.func (.func 191) #[] #[.pointer (some ⟨B,0,none⟩)]] w (Ret (.int .i64 (idxB (fun k=>x.reads k) xs)) w):=by
 have HM:∀ (W:World) (key:Nat),Below w.heap.size w W→Calls Tryz.prog 191 #[.float .f64 key,.pointer (some ⟨B,0,none⟩)] W (Ret (.bool (x.reads key)) W):=fun W key hb =>
  meets1_any x key B W (hx.below hb) (Nat.lt_of_lt_of_le hB hb.size) ((hb.cell (p:=⟨B,0,none⟩) hB).trans h0) ((hb.cell (p:=⟨B,1,none⟩) hB).trans h1) ((hb.cell (p:=⟨B,2,none⟩) hB).trans h2) ((hb.cell (p:=⟨B,3,none⟩) hB).trans h3) ((hb.cell (p:=⟨B,4,none⟩) hB).trans h4) ((hb.cell (p:=⟨B,5,none⟩) hB).trans h5)
 obtain ⟨hr,hl,hm⟩:=h
 unfold maxLen at hm
 clear h0 h1 h2 h3 h4 h5 hl
 rcases hr with rfl|⟨b,o,rfl,hb,hc⟩
 ·simp only [List.length_nil] at hn
  subst hn
  have e:idxB (fun k:Nat=>x.reads k) [] = -1:=rfl
  rw [e]
  clear e
  go_enter Tryz.func179,Tryz.ntmps179
  go_wp2
  go_loop [8] (fun i=>i=.int .i64 0) (fun _=>0)
  case atStart=>rfl
  case round =>
   subst hrel
   go_wp2
   go_ret
   exact ⟨rfl,Below.refl _ _⟩
 ·have HC:=hid hc;have HN:=hid hn
  rw [hn] at hm
  clear hc hn
  go_enter Tryz.func179,Tryz.ntmps179
  go_wp2
  go_loopw [8] (fun i wr=>∃ k:Nat,k≤n∧i=.int .i64 k∧Hid (∀ j:Nat,j<k→∀ y,xs[j]? = some y→x.reads y=false)∧Below w.heap.size w wr) (fun i _=>n-(intOf i).toNat)
  case atStart=>exact ⟨0,Nat.zero_le _,rfl,hid fun j hj=>absurd hj (Nat.not_lt_zero _),Below.refl _ _⟩
  case round =>
   obtain ⟨k,hk,rfl,HR,hbw⟩:=hrel
   by_cases hlt:k<n
   ·have c0:=HC.out k (by rw [HN.out];exact hlt)
    have hlt':(k:Int)<(n:Int):=by omega
    have hsz:=hbw.size
    have hkx:=hid (fl_some (xs:=xs) (k:=k) (by rw [HN.out];exact hlt))
    have d0:=(hbw.cell (p:=⟨b,_,none⟩) hb).trans c0
    clear c0
    generalize hs:xs[k]?.getD 0=s at *
    have HS:=hid hs
    clear hs
    have H:=HM wr s hbw
    cases hp:x.reads s
    ·rw [hp] at H
     have HP:=hid hp
     clear hp
     go_wp2_with (go_at_call 191;with_reducible refine mQ (H) ?_;intro w1 hb1 hc1 hf1 hz1;intros)
     go_roundw
     case rel=>exact ⟨k+1,by omega,by go_num,hid fun j hj y hy=>by
       by_cases h:j<k
       ·exact HR.out j h y hy
       ·obtain rfl:j=k:=by omega
        rw [hkx.out] at hy;cases hy;exact HP.out,by exact below_auto⟩
     case measure=>simp [intOf];omega
    ·rw [hp] at H
     have HP:=hid hp
     clear hp
     go_wp2_with (go_at_call 191;with_reducible refine mQ (H) ?_;intro w1 hb1 hc1 hf1 hz1;intros)
     go_ret
     exact ⟨ret_int (by rw [idxB_some (p:=fun k=>x.reads k) hkx.out HP.out HR.out]),by exact below_auto⟩
   ·obtain rfl:k=n:=by omega
    go_wp2
    go_ret
    refine ⟨ret_int ?_,by exact below_auto⟩
    rw [idxB_none]
    intro i y hy
    refine HR.out i ?_ y hy
    have:=(List.getElem?_eq_some_iff.1 hy).1
    have:=HN.out
    omega

theorem slContainsFuncF_any (x:SubV) (a:Option Addr) (c B:Nat) (xs:List Nat) (n:Nat) (w:World) (hn:xs.length=n) (h:FAt w a xs) (hx:x.At w) (hB:B<w.heap.size)
  (h0:w.cell? ⟨B,0,none⟩=some (.int .i64 x.s0)) (h1:w.cell? ⟨B,1,none⟩=some (.int .i64 x.s1)) (h2:w.cell? ⟨B,2,none⟩=some (.int .i64 x.s2))
  (h3:w.cell? ⟨B,3,none⟩=some (.slice x.ra x.rs.length x.rc)) (h4:w.cell? ⟨B,4,none⟩=some (.slice x.sa x.ss.length x.sc)) (h5:w.cell? ⟨B,5,none⟩=some (.slice x.wa x.ws.length x.wc)) :
  Calls Tryz.prog 105 #[.slice a n c,.func (.func 191) #[] #[.pointer (some ⟨B,0,none⟩)]] w (Ret (.bool (xs.any fun k=>x.reads k)) w):=by
 have H:=slIndexFuncF_any x a c B xs n w hn h hx hB h0 h1 h2 h3 h4 h5
 rw [←idxB_any]
 generalize idxB (fun k:Nat=>x.reads k) xs=r at *
 clear h0 h1 h2 h3 h4 h5 hn
 go_enter Tryz.func105,Tryz.ntmps105
 go_wp2_with (go_at_call 179;with_reducible refine mQ (H) ?_;intro w1 hb1 hc1 hf1 hz1;intros)
 go_ret
 exact ⟨rfl,by exact below_auto⟩

end Go.Proofs.YtdeeoddacnealaaGreat