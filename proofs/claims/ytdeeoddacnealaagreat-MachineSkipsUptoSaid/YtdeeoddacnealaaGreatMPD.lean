/- Several texts as one: PD0 PD PT PU PV PX. -/
import Derived.Test.YtdeeoddacnealaaGreatQ0
import Derived.Test.YtdeeoddacnealaaGreatMPR
import Derived.Test.YtdeeoddacnealaaGreatMPE
import Derived.Test.YtdeeoddacnealaaGreatMNC
import Derived.Recover
import Derived.Test.YtdeeoddacnealaaGreatMR
import Derived.Test.YtdeeoddacnealaaGreatMNI
set_option linter.unusedVariables false
set_option linter.unusedSimpArgs false
namespace Go.Proofs.YtdeeoddacnealaaGreat.P
open Go.RowKit Fl

structure Fr2 (S R:Nat) (w w':World):Prop where
 os:w'.os=w.os
 tape:w'.tape=w.tape
 output:w'.output=w.output
 size:w.heap.size≤w'.heap.size
 block:∀ k,k<w.heap.size→k≠S→k≠R→w'.heap[k]? = w.heap[k]?
theorem Fr2.refl (S R:Nat) (w:World):Fr2 S R w w:=⟨rfl,rfl,rfl,Nat.le_refl _,fun _ _ _ _=>rfl⟩
theorem Fr2.grown {S R g:Nat} {w a b:World} (h:Fr2 S R w a) (k:a.grownBy b (some g)) (hg:g=S∨g=R∨w.heap.size≤g):Fr2 S R w b :=
 ⟨k.os.trans h.os,k.tape.trans h.tape,k.output.trans h.output,Nat.le_trans h.size k.size,fun i hi h1 h2 =>
  (k.block i (Nat.lt_of_lt_of_le hi h.size) (fun e=>by have:=Option.some.inj e;omega)).trans (h.block i hi h1 h2)⟩
theorem Fr2.below {S R C:Nat} {w a b:World} (h:Fr2 S R w a) (k:Below C a b) (hC:w.heap.size≤C):Fr2 S R w b :=
 ⟨k.os.trans h.os,k.tape.trans h.tape,k.output.trans h.output,Nat.le_trans h.size k.size,fun i hi h1 h2=>(k.block i (Nat.lt_of_lt_of_le hi hC)).trans (h.block i hi h1 h2)⟩
theorem RAt.keep {B R:Nat} {l:List Nat} {w w':World} (h:RAt B R l w) (hR:w'.heap[R]? = w.heap[R]?) (hb:∀ b,b<B→w'.heap[b]? = w.heap[b]?):RAt B R l w':=by
 obtain ⟨a,c,h1,h2,h3,h4⟩:=h
 refine ⟨a,c,hR.trans h1,h2,?_,h4⟩
 rcases h3 with h3|⟨b,o,e1,e2,hBR,e4⟩
 ·exact .inl h3
 ·exact .inr ⟨b,o,e1,e2,hBR,fun i hi=>(cell_blk (hb b e2) _).trans (e4 i hi)⟩
structure DSt (B S R:Nat) (w W:World) (cs:Array Value) (l:List Nat):Prop where
 fr:Fr2 S R w W
 s:W.heap[S]? = some (.cells cs 41 (0,0))
 r:RAt B R l W
 bs:B≤S
 sr:S<R
 rw:R<w.heap.size
theorem DSt.lt {B S R:Nat} {w W:World} {cs:Array Value} {l:List Nat} (h:DSt B S R w W cs l):R<W.heap.size∧w.heap.size≤W.heap.size:=⟨Nat.lt_of_lt_of_le h.rw h.fr.size,h.fr.size⟩
theorem DSt.read {B S R:Nat} {w W W':World} {cs:Array Value} {l l':List Nat} (h:DSt B S R w W cs l) (hg:W.grownBy W' (some R)) (hr:RAt B R l' W'):DSt B S R w W' cs l':=by
 have h1:=h.sr;have h2:=h.lt.1
 exact ⟨h.fr.grown hg (.inr (.inl rfl)),(hg.block S (by omega) (fun e=>by have:=Option.some.inj e;omega)).trans h.s,hr,h.bs,h.sr,h.rw⟩
theorem DSt.below {B S R C:Nat} {w W W':World} {cs:Array Value} {l:List Nat} (h:DSt B S R w W cs l) (hb:Below C W W') (hC:w.heap.size≤C):DSt B S R w W' cs l:=by
 have h1:=h.sr;have h2:=h.rw
 exact ⟨h.fr.below hb hC,(hb.block S (by omega)).trans h.s,h.r.below hb (by omega),h.bs,h.sr,h.rw⟩
theorem DSt.set {B S R:Nat} {w W:World} {cs:Array Value} {l:List Nat} (h:DSt B S R w W cs l) (i:Nat) (v:Value):DSt B S R w (W.setCell ⟨S,i,none⟩ v) (cs.setIfInBounds i v) l∧W.grownBy (W.setCell ⟨S,i,none⟩ v) (some S):=by
 have h1:=h.sr;have h2:=h.lt.1;have h3:=h.bs
 obtain ⟨h5,h6⟩:=set1R (i:=i) h.s v
 exact ⟨⟨h.fr.grown h6 (.inl rfl),h5,h.r.keep (h6.block R h2 (fun e=>by have:=Option.some.inj e;omega)) (fun b hb=>h6.block b (by omega) (fun e=>by have:=Option.some.inj e;omega)),h.bs,h.sr,h.rw⟩,h6⟩
theorem DSt.cell {B S R:Nat} {w W:World} {cs:Array Value} {l:List Nat} (h:DSt B S R w W cs l) (i:Nat):W.cell? ⟨S,i,none⟩=cs[i]?:=cell_of_row W S i _ _ (0,0) h.s
theorem DSt.fz {B S R:Nat} {w W:World} {cs:Array Value} {l:List Nat} (h:DSt B S R w W cs l) (i:Nat):W.frozen? ⟨S,i,none⟩=false:=by simp [World.frozen?,h.s]
theorem own_at {w w':World} {base sz n:Nat} {e:TypeId} {v:Value} {xs:List Value} (h:w.ownsRow base e sz v n xs) (hk:∀ g,v.ownBlock=some g→w'.heap[g]? = w.heap[g]?):w'.ownsRow base e sz v n xs:=by
 refine ⟨h.1,?_⟩
 rcases h.2 with h1|⟨g,cap,cur,rfl,h2,h3,h4⟩
 ·exact .inl h1
 ·exact .inr ⟨g,cap,cur,rfl,h2,(hk g rfl).trans h3,h4⟩
theorem own_grown {w w':World} {base sz n g:Nat} {e:TypeId} {v:Value} {xs:List Value} (h:w.ownsRow base e sz v n xs) (hg:w.grownBy w' (some g)) (hb:g<base):w'.ownsRow base e sz v n xs :=
 h.kept hg (.inr fun e=>by have:=(h.lt g e).1;omega)
theorem appSp {w:World} {base n:Nat} {a:Option Addr} {c:Nat} {l:List SpanV} (s:SpanV) (hn:l.length=n) (hown:w.ownsRow base 150 4 (.slice a n c) n (N.vCells l)) (hbase:base≤w.heap.size) (hl:n≤5864062014804) :
  ∃ a' c' w',(∀ ty,(Builtin.append_ #[39,39] ty #[.slice a n c,.slice (some ⟨w.heap.size,0,none⟩) 1 1]).run Tryz.prog (w.alloc (.cells #[.float .f64 s.lo,.float .f64 s.hi,.bool s.a,.bool s.b] 150))=.ok (.slice a' (n+1) c') w') ∧
   w'.ownsRow base 150 4 (.slice a' (n+1) c') (n+1) (N.vCells (l++[s]))∧Below base w w':=by
 subst hn
 obtain ⟨i0,hi0,hz0,hzs,hzb⟩:=info_parts N.spanInfo
 have hb1:Below w.heap.size w (w.alloc (.cells #[.float .f64 s.lo,.float .f64 s.hi,.bool s.a,.bool s.b] 150)):=by exact below_auto
 have hown1:=hown.kept (K.grown_of_below hb1) (by cases (Value.slice a l.length c).ownBlock <;> simp)
 obtain ⟨v',w',hr,h2,h3⟩:=run_append_own2 (P:=Tryz.prog) (w.alloc (.cells #[.float .f64 s.lo,.float .f64 s.hi,.bool s.a,.bool s.b] 150)) base 39 150 i0 _ 4 24 Tryz.underlying39 hi0 hz0 hzs hzb rfl (by omega) _ _ _ hown1 ⟨w.heap.size,0,none⟩ 1 1 (N.encV s) rfl
  (fun j u hj=>by
   have hrow:(w.alloc (.cells #[.float .f64 s.lo,.float .f64 s.hi,.bool s.a,.bool s.b] 150)).heap[w.heap.size]? = some (.cells #[.float .f64 s.lo,.float .f64 s.hi,.bool s.a,.bool s.b] 150 (0,0)):=heap_alloc_new w _
   rw [K.addr0,N.cell_row hrow]
   rw [←hj];simp [N.encV]) (N.encV_one s) (by omega) (by unfold maxLen;omega) (by omega) (by simp;omega)
 have hc:N.vCells l++N.encV s=N.vCells (l++[s]):=by simp [N.vCells]
 rw [hc] at h2
 have hv:∃ va vc,v'=.slice va (l.length+1) vc:=by
  rcases h2.2 with ⟨rfl,h4⟩|⟨g,cap,cur,rfl,_⟩
  ·omega
  ·exact ⟨_,_,rfl⟩
 obtain ⟨a',c',rfl⟩:=hv
 exact ⟨a',c',w',hr,h2,(hb1.mono hbase).grown h3.1 (by simp;omega) (fun k hk=>(hown.lt k hk).1)⟩

theorem both_none {α β:Type} {p:List Nat→Option (α×List Nat)} {q:List Nat→Option (β×List Nat)} {b:List Nat} (h:p b=none):both p q b=none:=by unfold both;rw [h]
theorem both_map {α β:Type} {p:List Nat→Option (α×List Nat)} {q:List Nat→Option (β×List Nat)} {b r:List Nat} {x:α} (h:p b=some (x,r)):both p q b=(q r).map fun z=>((x,z.1),z.2):=by
 unfold both;rw [h]
 simp only
 cases q r <;> rfl
theorem count_le {m n:Nat} {b r:List Nat} (h:getCount m b=some (n,r)):n≤m:=by
 unfold getCount at h
 cases hx:getNum b with
 | none=>rw [hx] at h;cases h
 | some p =>
  obtain ⟨k,r⟩:=p
  rw [hx] at h
  simp only at h
  by_cases hc:k<0∨(m:Int)<k
  ·rw [if_pos hc] at h;cases h
  ·rw [if_neg hc] at h;cases h;omega
theorem cut_ok {B R n:Nat} {bs:List Nat} {w:World} (h:RAt B R bs w) (h0:0<n) (hn:n≤bs.length):RAt B R (bs.drop n) (cutW R n w)∧w.grownBy (cutW R n w) (some R):=by
 have hR:=h.lt
 obtain ⟨a,c,h1,h2,h3,h4⟩:=h
 rcases h3 with h3|⟨b,o,rfl,e2,hBR,e4⟩
 ·rw [h3] at hn;simp at hn;omega
 by_cases hc:c=n
 ·obtain ⟨_,_,_,_,_,_,_,h5,h6,h7⟩:=take_end (c2:=0) (a':=some ⟨b,o,none⟩) (c':=0) h1 h4 e2 hBR hR hn e4 ⟨.inr (by omega),by omega,(if_pos hc).symm⟩
  rw [←h7];exact ⟨h5,h6⟩
 ·obtain ⟨_,_,_,_,_,_,_,h5,h6,h7⟩:=take_end (c2:=0) (a':=some ⟨b,o+n,none⟩) (c':=c-n) h1 h4 e2 hBR hR hn e4 ⟨.inl rfl,by omega,(if_neg hc).symm⟩
  rw [←h7];exact ⟨h5,h6⟩
theorem getKey_some {bs r:List Nat} {x:Nat} (h:getKey bs=some (x,r)):8≤bs.length∧r=bs.drop 8:=by
 unfold getKey at h
 by_cases h8:bs.length<8
 ·rw [if_pos h8] at h;cases h
 ·rw [if_neg h8] at h
  by_cases hk:okN (unkeyB (bs.take 8))=true
  ·rw [if_pos hk] at h;cases h;exact ⟨by omega,rfl⟩
  ·rw [if_neg hk] at h;cases h
def dfin:Option (Dt×List Nat)→Option (Dt×List Nat)
 | none=>none
 | some (t,r)=>if K.SubV.check (ofD t)=0 then some (t,r) else none
def D1 (b:List Nat):Option (Dt×List Nat):=dfin (parse b)
def Above (x:SubV) (n:Nat):Prop:=∀ a:Addr,(x.ra=some a∨x.sa=some a∨x.wa=some a)→n≤a.block
theorem fat_grown {w w':World} {a:Option Addr} {xs:List Nat} {n g:Nat} (h:FAt w a xs) (ha:∀ p,a=some p→n≤p.block) (hg:w.grownBy w' (some g)) (hn:g<n):FAt w' a xs:=by
 refine ⟨?_,h.lt,h.len⟩
 rcases h.row with h0|⟨b,o,h1,h2,h3⟩
 ·exact .inl h0
 ·have hb:=ha _ h1
  have hb:n≤b:=hb
  exact .inr ⟨b,o,h1,Nat.lt_of_lt_of_le h2 hg.size,fun i hi=>(cell_blk (hg.block b h2 (fun e=>by have:=Option.some.inj e;omega)) _).trans (h3 i hi)⟩
theorem sat_grown {w w':World} {a:Option Addr} {xs:List SpanV} {n g:Nat} (h:SAt w a xs) (ha:∀ p,a=some p→n≤p.block) (hg:w.grownBy w' (some g)) (hn:g<n):SAt w' a xs:=by
 refine ⟨?_,h.lt,h.len⟩
 rcases h.row with h0|⟨b,o,h1,h2,h3⟩
 ·exact .inl h0
 ·have hb:=ha _ h1
  have hb:n≤b:=hb
  have hk:=hg.block b h2 (fun e=>by have:=Option.some.inj e;omega)
  exact .inr ⟨b,o,h1,Nat.lt_of_lt_of_le h2 hg.size,fun i hi=>by
   obtain ⟨c0,c1,c2,c3⟩:=h3 i hi
   exact ⟨(cell_blk hk _).trans c0,(cell_blk hk _).trans c1,(cell_blk hk _).trans c2,(cell_blk hk _).trans c3⟩⟩
theorem at_grown {x:SubV} {w w':World} {n g:Nat} (h:x.At w) (ha:Above x n) (hg:w.grownBy w' (some g)) (hn:g<n):x.At w' :=
 ⟨fat_grown h.r (fun p e=>ha p (.inl e)) hg hn,sat_grown h.s (fun p e=>ha p (.inr (.inl e))) hg hn,fat_grown h.w (fun p e=>ha p (.inr (.inr e))) hg hn⟩
theorem own_above {w:World} {base sz n m c:Nat} {e:TypeId} {a:Option Addr} {xs:List Value} (h:w.ownsRow base e sz (.slice a m c) n xs) (p:Addr) (hp:a=some p):base≤p.block:=by
 subst hp;exact (h.lt p.block rfl).1
def SBox (B0 S:Nat) (t:Dt) (w:World):Prop:=∃ x:SubV,SameD x (ofD t)∧x.At w∧Above x B0∧w.heap[S]? = some (.cells #[.int .i64 x.s0,.int .i64 x.s1,.int .i64 x.s2,.slice x.ra x.rs.length x.rc,.slice x.sa x.ss.length x.sc,.slice x.wa x.ws.length x.wc] 41 (0,0))
def DecRet (B S R:Nat) (o:Option (Dt×List Nat)) (w:World) (e:Ending) (w':World):Prop:=match o with
 | none=>e=.panicked wrongP∧Fr2 S R w w'
 | some (t,r)=>e=.returned (.tuple #[])∧Fr2 S R w w'∧RAt B R r w'∧SBox w.heap.size S t w'
theorem SBox.grown {B0 S g:Nat} {t:Dt} {w w':World} (h:SBox B0 S t w) (hg:w.grownBy w' (some g)) (hn:g<B0) (hgS:g≠S):SBox B0 S t w':=by
 obtain ⟨x,h1,h2,h3,h4⟩:=h
 have hS:S<w.heap.size:=(Array.getElem?_eq_some_iff.1 h4).1
 exact ⟨x,h1,at_grown h2 h3 hg hn,h3,(hg.block S hS (fun e=>hgS (Option.some.inj e.symm))).trans h4⟩
theorem SBox.le {B0 B1 S:Nat} {t:Dt} {w:World} (h:SBox B0 S t w) (hl:B1≤B0):SBox B1 S t w:=by
 obtain ⟨x,h1,h2,h3,h4⟩:=h
 exact ⟨x,h1,h2,fun a ha=>Nat.le_trans hl (h3 a ha),h4⟩

set_option maxHeartbeats 4000000 in
set_option maxRecDepth 100000 in
theorem dec1_any (B S R:Nat) (bs:List Nat) (w:World) (h:DSt B S R w w #[.int .i64 0,.int .i64 0,.int .i64 0,.slice none 0 0,.slice none 0 0,.slice none 0 0] bs) :
  Calls Tryz.prog 146 #[.pointer (some ⟨R,0,none⟩),.pointer (some ⟨S,0,none⟩)] w (DecRet B S R (D1 bs) w):=by
 have HD:=hid h
 have hSR:=h.sr;have hRw:=h.rw
 clear h
 generalize hQ:D1 bs=q
 have HQ:=hid hQ
 clear hQ
 go_enter Tryz.func146,Tryz.ntmps146
 go_wp2_with fail
 refine (num_any B R bs w HD.out.r).mono ?_
 intro e w1 h1
 cases h0:getNum bs with
 | none =>
  have hq:q=none:=by rw [←HQ.out];unfold D1 parse;rw [both_none h0];rfl
  subst hq
  rw [h0] at h1
  obtain ⟨rfl,hg⟩:=h1
  go_wp2_with fail
  exact ⟨rfl,rfl,HD.out.fr.grown hg (.inr (.inl rfl))⟩
 | some p =>
 obtain ⟨n0,l0⟩:=p
 have H0:=hid h0
 rw [h0] at h1
 obtain ⟨rfl,hr1,hg1⟩:=h1
 have D1':=hid (HD.out.read hg1 hr1)
 clear hr1 hg1 h0
 go_wp2_with fail
 refine (num_any B R l0 w1 D1'.out.r).mono ?_
 intro e w2 h2
 cases h0:getNum l0 with
 | none =>
  have hq:q=none:=by rw [←HQ.out];unfold D1 parse;rw [both_map H0.out,both_none h0];rfl
  subst hq
  rw [h0] at h2
  obtain ⟨rfl,hg⟩:=h2
  go_wp2_with fail
  exact ⟨rfl,rfl,D1'.out.fr.grown hg (.inr (.inl rfl))⟩
 | some p =>
 obtain ⟨n1,l1⟩:=p
 have H1:=hid h0
 rw [h0] at h2
 obtain ⟨rfl,hr2,hg2⟩:=h2
 have D2':=hid (D1'.out.read hg2 hr2)
 clear hr2 hg2 h0
 go_wp2_with fail
 refine (num_any B R l1 w2 D2'.out.r).mono ?_
 intro e w3 h3
 cases h0:getNum l1 with
 | none =>
  have hq:q=none:=by rw [←HQ.out];unfold D1 parse;rw [both_map H0.out,both_map H1.out,both_none h0];rfl
  subst hq
  rw [h0] at h3
  obtain ⟨rfl,hg⟩:=h3
  go_wp2_with fail
  exact ⟨rfl,rfl,D2'.out.fr.grown hg (.inr (.inl rfl))⟩
 | some p =>
 obtain ⟨n2,l2⟩:=p
 have H2:=hid h0
 rw [h0] at h3
 obtain ⟨rfl,hr3,hg3⟩:=h3
 have d3:=D2'.out.read hg3 hr3
 have c0:w3.cell? ⟨S,0,none⟩=some (.int .i64 0):=d3.cell 0
 have c1:w3.cell? ⟨S,1,none⟩=some (.int .i64 0):=d3.cell 1
 have c2:w3.cell? ⟨S,2,none⟩=some (.int .i64 0):=d3.cell 2
 have f0:=d3.fz 0;have f1:=d3.fz 1;have f2:=d3.fz 2
 have d4:=(((d3.set 0 (.int .i64 n0)).1.set 1 (.int .i64 n1)).1.set 2 (.int .i64 n2)).1
 have D4:Hid (DSt B S R w (((w3.setCell ⟨S,0,none⟩ (.int .i64 n0)).setCell ⟨S,1,none⟩ (.int .i64 n1)).setCell ⟨S,2,none⟩ (.int .i64 n2)) #[.int .i64 n0,.int .i64 n1,.int .i64 n2,.slice none 0 0,.slice none 0 0,.slice none 0 0] l2):=hid d4
 clear hr3 hg3 h0 d3 d4
 go_upto_region 1 with fail
 generalize ((w3.setCell ⟨S,0,none⟩ (.int .i64 n0)).setCell ⟨S,1,none⟩ (.int .i64 n1)).setCell ⟨S,2,none⟩ (.int .i64 n2)=w4 at *
 clear c0 c1 c2 f0 f1 f2
 go_wp2_with fail
 refine (keys_any B R 16 l2 w4 D4.out.r (by decide)).mono ?_
 intro e w5 h5
 cases h0:getRow 16 getKey l2 with
 | none =>
  have hq:q=none:=by rw [←HQ.out];unfold D1 parse;rw [both_map H0.out,both_map H1.out,both_map H2.out,both_none h0];rfl
  subst hq
  rw [h0] at h5
  obtain ⟨rfl,hg⟩:=h5
  go_wp2_with fail
  exact ⟨rfl,rfl,D4.out.fr.grown hg (.inr (.inl rfl))⟩
 | some p =>
 obtain ⟨rs,l3⟩:=p
 have H3:=hid h0
 rw [h0] at h5
 obtain ⟨a1,k1,rfl,hown1,hr5,hg5⟩:=h5
 have d5:=D4.out.read hg5 hr5
 have c3:w5.cell? ⟨S,3,none⟩=some (.slice none 0 0):=d5.cell 3
 have f3:=d5.fz 3
 have hz4:=D4.out.lt
 obtain ⟨d6,g6⟩:=d5.set 3 (.slice a1 rs.length k1)
 have D6:Hid (DSt B S R w (w5.setCell ⟨S,3,none⟩ (.slice a1 rs.length k1)) #[.int .i64 n0,.int .i64 n1,.int .i64 n2,.slice a1 rs.length k1,.slice none 0 0,.slice none 0 0] l3):=hid d6
 have O6:=hid (own_grown hown1 g6 (by omega))
 clear hr5 hg5 h0 d5 d6 hown1 g6
 go_upto_region 2 with fail
 generalize w5.setCell ⟨S,3,none⟩ (.slice a1 rs.length k1)=w6 at *
 clear c3 f3
 go_wp2_with fail
 refine (count_any B R 8 l3 w6 D6.out.r).mono ?_
 intro e w7 h7
 cases h0:getCount 8 l3 with
 | none =>
  have hq:q=none:=by rw [←HQ.out];unfold D1 parse;rw [both_map H0.out,both_map H1.out,both_map H2.out,both_map H3.out,both_none (p:=getRow 8 getSp) (by unfold getRow;rw [h0])];rfl
  subst hq
  rw [h0] at h7
  obtain ⟨rfl,hg⟩:=h7
  go_wp2_with fail
  exact ⟨rfl,rfl,D6.out.fr.grown hg (.inr (.inl rfl))⟩
 | some p =>
 obtain ⟨n,l4⟩:=p
 have hn8:=count_le h0
 have HROW:Hid (getRow 8 getSp l3=getMany getSp n l4):=hid (by unfold getRow;rw [h0])
 rw [h0] at h7
 obtain ⟨rfl,hr7,hg7⟩:=h7
 have D7:=hid (D6.out.read hg7 hr7)
 have hz6:=D6.out.lt
 have O7:=hid (own_grown O6.out hg7 (by omega))
 clear hr7 hg7 h0
 have hO1:Hid (∀ g,(Value.slice a1 rs.length k1).ownBlock=some g→g<w7.heap.size):=hid fun g hg=>(O7.out.lt g hg).2
 have hz7:=D7.out.lt
 have HNONE:Hid (getMany getSp n l4=none→q=none):=hid fun hx=>by
  rw [←HQ.out];unfold D1 parse;rw [both_map H0.out,both_map H1.out,both_map H2.out,both_map H3.out,both_none (by rw [HROW.out,hx])];rfl
 go_upto_region 3 with fail
 go_loopw [18] (fun t18 wr=>∃ (i j:Nat) (a:Option Addr) (c:Nat) (L:List (Nat×Nat)) (l:List Nat),t18=.int .i64 (i:Nat)∧i≤n∧Hid (j=i)∧Hid (L.length=i)∧Hid (getMany getSp i l4=some (L,l))∧Hid (DSt B S R w wr #[.int .i64 n0,.int .i64 n1,.int .i64 n2,.slice a1 rs.length k1,.slice a j c,.slice none 0 0] l)∧Hid (wr.ownsRow w7.heap.size 150 4 (.slice a j c) j (N.vCells (L.map spOf)))∧Hid (wr.ownsRow w4.heap.size 57 1 (.slice a1 rs.length k1) rs.length (K.fCells rs))∧Hid (w7.heap.size≤wr.heap.size)) (fun t18 _=>n-(intOf t18).toNat)
 case atStart=>exact ⟨0,0,none,0,[],l4,rfl,Nat.zero_le _,hid rfl,hid rfl,hid rfl,D7,hid ⟨rfl,.inl ⟨rfl,rfl⟩⟩,O7,hid (Nat.le_refl _)⟩
 case round =>
  obtain ⟨i,j,a,c,L,l,rfl,hi,HJ,HL,HM,HS,HW,HO,HZ⟩:=hrel
  by_cases hlt:i<n
  ·have hlt':(i:Int)<(n:Int):=by omega
   go_upto_region 4 with fail
   go_wp2_with fail
   refine (key_any B R l wr HS.out.r).mono ?_
   intro e w8 h8
   cases hk:getKey l with
   | none =>
    have hq:q=none:=HNONE.out (by
     have:getMany getSp (i+1) l4=none:=by
      rw [getMany,HM.out];simp only;rw [show getSp l=none from both_none hk]
     have:=many_none (k:=n-(i+1)) this
     rwa [show i+1+(n-(i+1))=n by omega] at this)
    subst hq
    rw [hk] at h8
    obtain ⟨rfl,hg⟩:=h8
    have HF:=hid (HS.out.fr.grown hg (.inr (.inl rfl)))
    go_wp2_with fail
    exact ⟨rfl,rfl,HF.out⟩
   | some p =>
   obtain ⟨lo,la⟩:=p
   have HK:=hid hk
   rw [hk] at h8
   obtain ⟨rfl,hr8,hg8⟩:=h8
   have D8:=hid (HS.out.read hg8 hr8)
   have hzr:=HS.out.lt
   have hz7':=HZ.out
   have W8:=hid (own_grown HW.out hg8 (by omega))
   have O8:=hid (own_grown HO.out hg8 (by omega))
   have Z8:Hid (w7.heap.size≤w8.heap.size):=hid (Nat.le_trans hz7' hg8.size)
   clear hr8 hg8 hk
   go_upto_region 5 with fail
   cases hk:getKey la with
   | none =>
    have hq:q=none:=HNONE.out (by
     have:getMany getSp (i+1) l4=none:=by
      rw [getMany,HM.out];simp only;rw [show getSp l=none by unfold getSp;rw [both_map HK.out,hk];rfl]
     have:=many_none (k:=n-(i+1)) this
     rwa [show i+1+(n-(i+1))=n by omega] at this)
    subst hq
    refine wp_region_chain (fun i=>[Value.pointer (some ⟨S,4,none⟩),.slice a j c,.float .f64 lo,.pointer (some ⟨R,0,none⟩)].getD i undef) (fun j x=>j=0∧x = { w8 with drawn:=w8.drawn+1 }) (fun c x=>c=wrongP∧w8.grownBy x (some R)) [4,6,7,9] rfl (by kernel_rfl) (by kernel_rfl) (by decide) (by decide) ⟨rfl,rfl⟩ ?_ ?_ ?_
    ·simp only [StepsC,List.nil_append,List.cons_append]
     refine ⟨?_,?_,?_,?_,?_,?_,?_,?_,?_,?_,trivial⟩
     case' refine_5 =>
      intro jj x g1 g2 hx
      obtain ⟨rfl,rfl⟩:=hx
      generalize hR:(fun v w'=>(_→v=_)∧_)=RR
      have HR:=hid hR
      clear hR g1 g2
      simp only [putsFrom,Act.put,qA,qB,qC,Nat.zero_add,Nat.reduceAdd,List.getD_cons_zero,List.getD_cons_succ]
      have hrd:RAt B R la { w8 with drawn:=w8.drawn+1 }:=D8.out.r.below (Below.drew (Below.refl _ w8)) D8.out.lt.1
      go_wp2_with fail
      refine (key_any B R la _ hrd).mono ?_
      rw [hk]
      rintro e w9 ⟨rfl,hg9⟩
      go_wp2_with fail
      exact ⟨rfl,hg9.os,hg9.tape,hg9.output,hg9.size,hg9.block⟩
     all_goals
      intro jj x g1 g2 hx
      obtain ⟨rfl,rfl⟩:=hx
      first
      | exact absurd g1 (by decide +kernel)
      | (
        generalize hR:(fun v w'=>(_→v=_)∧_)=RR
        have HR:=hid hR
        clear hR g1 g2
        try simp only [putsFrom,Act.put,qA,qB,qC,Nat.zero_add,Nat.reduceAdd,List.getD_cons_zero,List.getD_cons_succ]
        have c4:w8.cell? ⟨S,4,none⟩=some (.slice a j c):=D8.out.cell 4
        go_wp2_with fail
        have hR:=HR.out
        subst hR
        exact ⟨rfl,fun _=>rfl,rfl,rfl⟩)
    ·intro x hx
     exact absurd hx.1 (by decide)
    ·intro c a x hd hx
     obtain ⟨rfl,hg⟩:=hx
     exact ⟨hd,rfl,D8.out.fr.grown hg (.inr (.inl rfl))⟩
   | some p =>
   obtain ⟨hh,lb⟩:=p
   have HM2:Hid (getMany getSp (i+1) l4=some (L++[(lo,hh)],lb)):=hid (by
    rw [getMany,HM.out];simp only;rw [show getSp l=some ((lo,hh),lb) by unfold getSp;rw [both_map HK.out,hk];rfl])
   obtain ⟨h8,rfl⟩:=getKey_some hk
   have HK2:=hid hk
   clear hk
   obtain ⟨Y0,hY0⟩:∃ Y:World,Y = { w8 with drawn:=w8.drawn+1 }:=⟨_,rfl⟩
   have hb80:Below w8.heap.size w8 Y0:=by rw [hY0];exact Below.drew (Below.refl _ w8)
   have z80:Y0.heap.size=w8.heap.size:=by rw [hY0]
   have hrd:RAt B R la Y0:=D8.out.r.below hb80 D8.out.lt.1
   have d80:=D8.out.below hb80 D8.out.fr.size
   have w80:=W8.out.kept (K.grown_of_below hb80) (by cases (Value.slice a j c).ownBlock <;> simp)
   have o80:=O8.out.kept (K.grown_of_below hb80) (by cases (Value.slice a1 rs.length k1).ownBlock <;> simp)
   obtain ⟨hr1,hg1⟩:=cut_ok hrd (by decide) h8
   obtain ⟨Y1,hY1⟩:∃ Y:World,Y=cutW R 8 Y0:=⟨_,rfl⟩
   rw [←hY1] at hr1 hg1
   have d1:=d80.read hg1 hr1
   have hSR2:=d80.lt
   have hz8:=Z8.out
   have ww1:=own_grown w80 hg1 (by omega)
   have oo1:=own_grown o80 hg1 (by omega)
   have hzy:=hg1.size
   obtain ⟨a',c',Y3,hrun,hown3,hb3⟩:=appSp (spOf (lo,hh)) (show (L.map spOf).length=j by rw [List.length_map,HL.out,HJ.out]) ww1 (by omega) (by have:=HJ.out;omega)
   have d2:DSt B S R w (Y1.alloc (.cells #[.float .f64 lo,.float .f64 hh,.bool false,.bool false] 150)) _ _:=d1.below (Below.alloc1 (Nat.le_refl _) (Below.refl _ Y1) _) d1.lt.2
   have d3:=d1.below hb3 hz7.2
   obtain ⟨d4,g4⟩:=d3.set 4 (.slice a' (j+1) c')
   have oo3:=own_at oo1 fun g hg=>hb3.block g (hO1.out g hg)
   have hz3:=hb3.size
   have ww4:=own_grown hown3 g4 (by omega)
   have oo4:=own_grown oo3 g4 (by omega)
   have zz4:w7.heap.size≤(Y3.setCell ⟨S,4,none⟩ (.slice a' (j+1) c')).heap.size:=by have:=g4.size;omega
   have k0:=d80.cell 4;have k1':=d1.cell 4;have k2:=d2.cell 4;have k3:=d3.cell 4;have f3:=d3.fz 4
   simp only [List.getElem?_toArray,List.getElem?_cons_succ,List.getElem?_cons_zero] at k0 k1' k2 k3
   have HD4:=hid d4;have HW4:=hid ww4;have HO4:=hid oo4;have HZ4:=hid zz4
   have HRD:=hid hrd;have HY1:=hid hY1;have HY0:=hid hY0
   have HRUN:=hid hrun;have K0:=hid k0;have K1:=hid k1';have K2:=hid k2;have K3:=hid k3;have F3:=hid f3
   obtain ⟨Y4,hY4⟩:∃ Y:World,Y=Y3.setCell ⟨S,4,none⟩ (.slice a' (j+1) c'):=⟨_,rfl⟩
   have HY4:=hid hY4
   rw [←hY4] at HD4 HW4 HO4 HZ4
   clear hrd hb80 d80 w80 o80 hr1 hg1 d1 ww1 oo1 hrun hown3 hb3 d2 d3 d4 g4 oo3 ww4 oo4 zz4 k0 k1' k2 k3 f3 hY1 hY0 hz3 hz8 hzy z80 hSR2 hY4
   refine wp_region_chain (fun i=>[Value.pointer (some ⟨S,4,none⟩),.slice a j c,.float .f64 lo,.pointer (some ⟨R,0,none⟩),.float .f64 hh,.agg #[.float .f64 lo,.float .f64 hh,.bool false,.bool false],.slice (some ⟨Y1.heap.size,0,none⟩) 1 1,.slice a' (j+1) c',.pointer (some ⟨S,4,none⟩)].getD i undef) (fun j x=>x=[Y0,Y1,Y1.alloc (.cells #[.float .f64 lo,.float .f64 hh,.bool false,.bool false] 150),Y3,Y4].getD j Y0) (fun c x=>False) [4,6,7,9] rfl (by kernel_rfl) (by kernel_rfl) (by decide) (by decide) HY0.out.symm ?_ ?_ ?_
   ·simp only [StepsC,List.nil_append,List.cons_append]
    refine ⟨?_,?ld,?_,?_,?ky,?_,?bs,?ap,?_,?st,trivial⟩
    case ky =>
     intro jj x g1 g2 hx
     obtain rfl:jj=0:=Nat.le_zero.1 (Nat.le_trans g2 (by decide +kernel))
     obtain rfl:x=Y0:=hx
     generalize hR:(fun v w'=>(_→v=_)∧_)=RR
     have HR:=hid hR
     clear hR g1 g2
     simp only [putsFrom,Act.put,qA,qB,qC,Nat.zero_add,Nat.reduceAdd,List.getD_cons_zero,List.getD_cons_succ]
     go_wp2_with fail
     refine (key_x B R la _ HRD.out).mono ?_
     rw [HK2.out]
     rintro e w9 ⟨rfl,hw9,hr9,hg9⟩
     clear hr9 hg9
     have HW9:=hid hw9
     clear hw9
     go_wp2_with fail
     have hR:=HR.out
     subst hR
     exact ⟨rfl,fun _=>rfl,HW9.out.trans HY1.out.symm⟩
    case ld =>
     intro jj x g1 g2 hx
     have hj:jj=0∨jj=1∨jj=2:=by have:jj≤2:=Nat.le_trans g2 (by decide +kernel);omega
     have c4:x.cell? ⟨S,4,none⟩=some (.slice a j c):=by
      rw [hx]
      rcases hj with rfl|rfl|rfl
      ·exact K0.out
      ·exact K1.out
      ·exact K2.out
     generalize hR:(fun v w'=>(_→v=_)∧_)=RR
     have HR:=hid hR
     have HX:=hid hx
     clear hR g1 g2 hx
     simp only [putsFrom,Act.put,qA,qB,qC,List.getD_cons_zero]
     go_wp2_with fail
     have hR:=HR.out
     subst hR
     exact ⟨rfl,fun _=>rfl,HX.out⟩
    case bs =>
     intro jj x g1 g2 hx
     obtain rfl:jj=1:=Nat.le_antisymm (Nat.le_trans g2 (by decide +kernel)) (Nat.le_trans (by decide +kernel) g1)
     obtain rfl:x=Y1:=hx
     generalize hR:(fun v w'=>(_→v=_)∧_)=RR
     have HR:=hid hR
     clear hR g1 g2
     simp only [putsFrom,Act.put,qA,qB,qC,Nat.zero_add,Nat.reduceAdd,List.getD_cons_zero,List.getD_cons_succ]
     go_wp2_with fail
     have hR:=HR.out
     subst hR
     exact ⟨rfl,fun _=>rfl,rfl⟩
    case ap =>
     intro jj x g1 g2 hx
     obtain rfl:jj=2:=Nat.le_antisymm (Nat.le_trans g2 (by decide +kernel)) (Nat.le_trans (by decide +kernel) g1)
     obtain rfl:x=Y1.alloc (.cells #[.float .f64 lo,.float .f64 hh,.bool false,.bool false] 150):=hx
     generalize hR:(fun v w'=>(_→v=_)∧_)=RR
     have HR:=hid hR
     clear hR g1 g2
     simp only [putsFrom,Act.put,qA,qB,qC,Nat.zero_add,Nat.reduceAdd,List.getD_cons_zero,List.getD_cons_succ]
     go_wp2_with (at_builtin;refine Lib.wpList_append_run _ rfl _ _ _ _ rfl _ _ rfl rfl _ _ (HRUN.out _) ?_)
     have hR:=HR.out
     subst hR
     exact ⟨rfl,fun _=>rfl,rfl⟩
    case st =>
     intro jj x g1 g2 hx
     obtain rfl:jj=3:=Nat.le_antisymm (Nat.le_trans g2 (by decide +kernel)) (Nat.le_trans (by decide +kernel) g1)
     obtain rfl:x=Y3:=hx
     have k3:=K3.out;have f3:=F3.out
     generalize hR:(fun v w'=>(_→v=_)∧_)=RR
     have HR:=hid hR
     clear hR g1 g2
     simp only [putsFrom,Act.put,qA,qB,qC,Nat.zero_add,Nat.reduceAdd,List.getD_cons_zero,List.getD_cons_succ]
     go_wp2_with fail
     have hR:=HR.out
     subst hR
     exact ⟨rfl,fun h=>absurd rfl h,HY4.out.symm⟩
    all_goals
     intro jj x g1 g2 hx
     generalize hR:(fun v w'=>(_→v=_)∧_)=RR
     have HR:=hid hR
     have HX:=hid hx
     clear hR g1 g2 hx
     try simp only [putsFrom,Act.put,qA,qB,qC,Nat.zero_add,Nat.reduceAdd,List.getD_cons_zero,List.getD_cons_succ]
     go_wp2_with fail
     have hR:=HR.out
     subst hR
     exact ⟨rfl,fun _=>rfl,HX.out⟩
   ·intro x hx
    obtain rfl:x=Y4:=hx
    simp only [putsFrom,Act.put,qA,qB,qC,Nat.zero_add,Nat.reduceAdd,List.getD_cons_zero,List.getD_cons_succ]
    go_wp2_with fail
    go_roundw
    case rel=>exact ⟨i+1,j+1,a',c',L++[(lo,hh)],_,by go_num,by omega,hid (by rw [HJ.out]),hid (by rw [List.length_append,HL.out];rfl),HM2,HD4,hid (by rw [List.map_append];exact HW4.out),HO4,HZ4⟩
    case measure=>simp [intOf];omega
   ·exact fun _ _ _ _ hx=>hx.elim
  ·obtain rfl:i=n:=by omega
   have H4:Hid (getRow 8 getSp l3=some (L,l)):=hid (HROW.out.trans HM.out)
   obtain ⟨L2,hL2⟩:∃ L2,L2=L.map spOf:=⟨_,rfl⟩
   have HW':Hid (wr.ownsRow w7.heap.size 150 4 (.slice a j c) j (N.vCells L2)):=hid (by rw [hL2];exact HW.out)
   obtain rfl:j=L2.length:=by rw [HJ.out,hL2,List.length_map,HL.out]
   have hl2:L2.length≤8:=by rw [hL2,List.length_map,HL.out];exact hn8
   have HL2:=hid hL2
   clear HW hL2
   have hll:L.length≤8:=by rw [HL.out];exact hn8
   clear HNONE HROW HM HJ HL
   go_wp2_with fail
   refine (keys_any B R 16 l wr HS.out.r (by decide)).mono ?_
   intro e w9 h9
   cases h0:getRow 16 getKey l with
   | none =>
    have hq:q=none:=by rw [←HQ.out];unfold D1 parse;rw [both_map H0.out,both_map H1.out,both_map H2.out,both_map H3.out,both_map H4.out,h0];rfl
    subst hq
    rw [h0] at h9
    obtain ⟨rfl,hg⟩:=h9
    have HF:=hid (HS.out.fr.grown hg (.inr (.inl rfl)))
    go_wp2_with fail
    exact ⟨rfl,rfl,HF.out⟩
   | some p =>
   obtain ⟨ws,l5⟩:=p
   have hp:parse bs=some ((n0,n1,n2,rs,L,ws),l5):=by unfold parse;rw [both_map H0.out,both_map H1.out,both_map H2.out,both_map H3.out,both_map H4.out,h0];rfl
   have hD:=(parse_good.bwd bs _ l5 hp HD.out.r.byte).2
   have hqd:q=dfin (some ((n0,n1,n2,rs,L,ws),l5)):=by rw [←HQ.out];unfold D1;rw [hp]
   rw [h0] at h9
   obtain ⟨a3,k3,rfl,hown9,hr9,hg9⟩:=h9
   have hzr:=HS.out.lt
   have hz7':=HZ.out
   have d9:=HS.out.read hg9 hr9
   have w9':=own_grown HW'.out hg9 (by omega)
   have o9:=own_grown HO.out hg9 (by omega)
   have c5:w9.cell? ⟨S,5,none⟩=some (.slice none 0 0):=d9.cell 5
   have f5:=d9.fz 5
   obtain ⟨d10,g10⟩:=d9.set 5 (.slice a3 ws.length k3)
   have D10:Hid (DSt B S R w (w9.setCell ⟨S,5,none⟩ (.slice a3 ws.length k3)) #[.int .i64 n0,.int .i64 n1,.int .i64 n2,.slice a1 rs.length k1,.slice a L2.length c,.slice a3 ws.length k3] l5):=hid d10
   have kd:∀ y,KeyD y→y<2 ^ 64:=fun y hy=>by rw [←hy];exact cbits_lt y
   have A10:SubV.At ⟨n0,n1,n2,a1,k1,rs,a,c,L2,a3,k3,ws⟩ (w9.setCell ⟨S,5,none⟩ (.slice a3 ws.length k3)) :=
    ⟨K.own_fat rfl (own_grown o9 g10 (by omega)) (Nat.le_trans hD.2.2.2.1.1 (by decide)) (fun y hy=>kd y (hD.2.2.2.1.2 y hy)),
     N.own_satV rfl (own_grown w9' g10 (by omega)) (Nat.le_trans hl2 (by decide)) (fun i hi=>by
     have hs:=List.getElem_mem hi
     have hs2:L2[i]∈L.map spOf:=HL2.out ▸ hs
     obtain ⟨p,hp1,hp2⟩:=List.mem_map.1 hs2
     rw [List.getElem?_eq_getElem hi,Option.getD_some,←hp2]
     exact ⟨kd _ (hD.2.2.2.2.1.2 p hp1).1,kd _ (hD.2.2.2.2.1.2 p hp1).2⟩),
     K.own_fat rfl (own_grown hown9 g10 (by omega)) (Nat.le_trans hD.2.2.2.2.2.1 (by decide)) (fun y hy=>kd y (hD.2.2.2.2.2.2 y hy))⟩
   have HA10:=hid A10
   have AB:Hid (Above ⟨n0,n1,n2,a1,k1,rs,a,c,L2,a3,k3,ws⟩ w.heap.size):=hid fun p hp=>by
    have hz4':=D4.out.lt.2
    rcases hp with hp|hp|hp
    ·exact Nat.le_trans hz4' (own_above o9 p hp)
    ·exact Nat.le_trans hz7.2 (own_above w9' p hp)
    ·exact Nat.le_trans hzr.2 (own_above hown9 p hp)
   clear d9 w9' o9 d10 g10 hr9 hg9 h0 hown9 A10 hD kd hp
   go_upto_region 8 with fail
   generalize w9.setCell ⟨S,5,none⟩ (.slice a3 ws.length k3)=w10 at *
   clear c5 f5
   have q0:w10.cell? ⟨S,0,none⟩=some (.int .i64 n0):=D10.out.cell 0
   have q1:w10.cell? ⟨S,1,none⟩=some (.int .i64 n1):=D10.out.cell 1
   have q2:w10.cell? ⟨S,2,none⟩=some (.int .i64 n2):=D10.out.cell 2
   have q3:w10.cell? ⟨S,3,none⟩=some (.slice a1 rs.length k1):=D10.out.cell 3
   have q4:w10.cell? ⟨S,4,none⟩=some (.slice a L2.length c):=D10.out.cell 4
   have q5:w10.cell? ⟨S,5,none⟩=some (.slice a3 ws.length k3):=D10.out.cell 5
   have HC:Calls Tryz.prog 46 #[.agg #[.int .i64 n0,.int .i64 n1,.int .i64 n2,.slice a1 rs.length k1,.slice a L2.length c,.slice a3 ws.length k3]] w10 (Ret (.int .i64 (K.SubV.check (ofD (n0,n1,n2,rs,L,ws)))) w10):=by
    have h:=K.check_any ⟨n0,n1,n2,a1,k1,rs,a,c,L2,a3,k3,ws⟩ w10 HA10.out
    rw [SameD.check (x:=⟨n0,n1,n2,a1,k1,rs,a,c,L2,a3,k3,ws⟩) (y:=ofD (n0,n1,n2,rs,L,ws)) ⟨rfl,rfl,rfl,rfl,HL2.out,rfl⟩] at h
    exact h
   have SB:Hid (∀ W,Below w10.heap.size w10 W→SBox w.heap.size S (n0,n1,n2,rs,L,ws) W):=hid fun W hb=>⟨⟨n0,n1,n2,a1,k1,rs,a,c,L2,a3,k3,ws⟩,⟨rfl,rfl,rfl,rfl,HL2.out,rfl⟩,HA10.out.below hb,AB.out,(D10.out.below hb D10.out.lt.2).s⟩
   unfold dfin at hqd
   simp only at hqd
   have HQD:=hid hqd
   have HHC:=hid HC
   clear hqd HC HA10
   generalize K.SubV.check (ofD (n0,n1,n2,rs,L,ws))=cc at *
   generalize (n0,n1,n2,rs,L,ws)=t at *
   go_wp2_with fail
   refine HHC.out.mono ?_
   rintro e w11 ⟨rfl,hb11⟩
   have D11:=hid (D10.out.below hb11 D10.out.lt.2)
   have SB11:=hid (SB.out w11 hb11)
   clear hb11 q0 q1 q2 q3 q4 q5
   by_cases hc:cc=0
   ·have hq:=HQD.out
    rw [if_pos hc] at hq
    subst hq
    subst hc
    go_wp2_with fail
    go_end0
    exact ⟨rfl,D11.out.fr,D11.out.r,SB11.out⟩
   ·have hq:=HQD.out
    rw [if_neg hc] at hq
    subst hq
    have hcn:(cc != 0)=true:=by simpa using hc
    go_wp2_with fail
    refine (fail_any _ _).mono ?_
    rintro e w12 ⟨rfl,rfl⟩
    go_wp2_with fail
    exact ⟨rfl,rfl,D11.out.fr⟩

set_option maxRecDepth 100000 in
theorem read1_idle (p:Addr) (w:World) :
  CallsD Tryz.prog 154 #[.pointer (some p)] .returning w fun e u' w'=>e=.returned (.tuple #[])∧u'=.returning∧w'=w:=by
 refine callsD_of_wpS Tryz.func154 rfl fun c₀ cs hu=>?_
 apply wpS_seq
 apply wpS_region
 simp [wpOpsS,go_sem,recoverD,hu,Tryz.ntmps154,Exit.thenS]
 refine wpS_of_wp ?_
 generalize hQ:bodyPostS _ _ _ _ _=Q
 have HQ:=hid hQ
 clear hQ
 have e:(#[Value.pointer (some p)]++(Array.replicate 11 undef).setIfInBounds 3 Value.nilIface) = #[.pointer (some p),undef,undef,undef,.nilIface,undef,undef,undef,undef,undef,undef,undef]:=rfl
 rw [e]
 go_wp2_with fail
 rw [←HQ.out]
 cases c₀
 simp_all [bodyPostS,results,Tryz.results154]
set_option maxRecDepth 100000 in
theorem read1_caught (C:Nat) (w:World) (v0:Value) (hc:w.heap[C]? = some (.cells #[v0] 43 (0,0))) :
  CallsD Tryz.prog 154 #[.pointer (some ⟨C,0,none⟩)] (.panicking wrongP) w fun e u' w' =>
   e=.returned (.tuple #[])∧settle u'=.returning∧w'=(w.setCell ⟨C,0,none⟩ (.int .i64 30)).alloc (.cells #[.int .i64 30] 269):=by
 have hlt:C<w.heap.size:=(Array.getElem?_eq_some_iff.1 hc).1
 have k0:=box1 hc
 have f0:w.frozen? ⟨C,0,none⟩=false:=by simp [World.frozen?,hc]
 have hta:∀ (T:TypeId) (w:World),(Instr.typeAssert (.iface 269 (.agg #[.int .i64 30])) T 269 true).run Tryz.prog w=.ok (.tuple #[.agg #[.int .i64 30],.bool true]) w:=fun T w=>by kernel_rfl
 refine callsD_of_wpS Tryz.func154 rfl fun c₀ cs hu=>?_
 unfold wrongP at hu
 apply wpS_seq
 apply wpS_region
 simp [wpOpsS,go_sem,recoverD,hu,Tryz.ntmps154,Exit.thenS]
 refine wpS_of_wp ?_
 generalize hQ:bodyPostS _ _ _ _ _=Q
 have HQ:=hid hQ
 clear hQ
 have e:(#[Value.pointer (some ⟨C,0,none⟩)]++(Array.replicate 11 undef).setIfInBounds 3 (Value.iface 269 (.agg #[.int .i64 30]))) = #[.pointer (some ⟨C,0,none⟩),undef,undef,undef,.iface 269 (.agg #[.int .i64 30]),undef,undef,undef,undef,undef,undef,undef]:=rfl
 rw [e]
 go_wp2_with fail
 rw [←HQ.out]
 exact ⟨rfl,_,rfl,.tuple #[],by simp [results,Tryz.results154,go_sem],rfl,rfl,rfl⟩

theorem dec_D1 {bs r:List Nat} {t:Dt} (h:D1 bs=some (t,r)):dec bs=if r=[] then some t else none:=by
 unfold D1 dfin at h
 unfold dec
 cases hp:parse bs with
 | none=>rw [hp] at h;cases h
 | some p =>
  obtain ⟨t',r'⟩:=p
  rw [hp] at h
  simp only at h ⊢
  by_cases hc:K.SubV.check (ofD t')=0
  ·rw [if_pos hc] at h
   cases h
   by_cases hr:r=[]
   ·rw [if_pos ⟨hr,hc⟩,if_pos hr]
   ·rw [if_neg (fun h=>hr h.1),if_neg hr]
  ·rw [if_neg hc] at h;cases h
theorem dec_D1_none {bs:List Nat} (h:D1 bs=none):dec bs=none:=by
 unfold D1 dfin at h
 unfold dec
 cases hp:parse bs with
 | none=>rfl
 | some p =>
  obtain ⟨t',r'⟩:=p
  rw [hp] at h
  simp only at h ⊢
  by_cases hc:K.SubV.check (ofD t')=0
  ·rw [if_pos hc] at h;cases h
  ·rw [if_neg (fun h=>hc h.2)]
structure BelowB (B:Nat) (w:World) (a:Option Addr) (c:Nat) (bs:List Nat):Prop where
 row:bs=[]∨∃ b o,a=some ⟨b,o,none⟩∧b<B∧∀ i,i<bs.length→w.cell? ⟨b,o+i,none⟩=some (.int .u8 (bs[i]?.getD 0:Nat))
 lt:∀ x∈bs,x<256
 cap:bs.length≤c
def ReadDec (S:Nat) (o:Option Dt) (w:World) (e:Ending) (w':World):Prop:=match o with
 | none=>e=.returned (.int .i64 30)∧w.grownBy w' (some S)
 | some t=>e=.returned (.int .i64 0)∧w.grownBy w' (some S)∧SBox w.heap.size S t w'
theorem fin_frame {S R:Nat} {w w0 w1:World} (h0:Below w.heap.size w w0) (h1:Fr2 S R w0 w1) (hR:w.heap.size≤R):w.grownBy w1 (some S) :=
 ⟨h1.os.trans h0.os,h1.tape.trans h0.tape,h1.output.trans h0.output,Nat.le_trans h0.size h1.size,fun k hk hn =>
  (h1.block k (Nat.lt_of_lt_of_le hk h0.size) (fun e=>hn (by rw [e])) (by omega)).trans (h0.block k hk)⟩
theorem read_open {B S:Nat} {a:Option Addr} {c:Nat} {bs:List Nat} {w:World} (hb:BelowB B w a c bs) (hBS:B≤S) (hS:w.heap[S]? = some (.cells #[.int .i64 0,.int .i64 0,.int .i64 0,.slice none 0 0,.slice none 0 0,.slice none 0 0] 41 (0,0))) :
  ∀ w0,w0=(w.alloc (.cells #[.int .i64 0] 43)).alloc (.cells #[.slice a bs.length c] 267) →
   DSt B S (w.heap.size+1) w0 w0 #[.int .i64 0,.int .i64 0,.int .i64 0,.slice none 0 0,.slice none 0 0,.slice none 0 0] bs∧Below w.heap.size w w0∧w0.heap[w.heap.size]? = some (.cells #[.int .i64 0] 43 (0,0)):=by
 intro w0 h0
 have hSl:S<w.heap.size:=(Array.getElem?_eq_some_iff.1 hS).1
 have hA:Below w.heap.size w w0:=by rw [h0];exact below_auto
 have hz:w.heap.size+1<w0.heap.size:=by rw [h0];simp
 have e1:w0.heap[w.heap.size]? = some (.cells #[.int .i64 0] 43 (0,0)):=by
  rw [h0]
  exact ((World.grownBy_alloc _ _ none).block _ (by simp) (by simp)).trans (heap_alloc_new w _)
 have e2:w0.heap[w.heap.size+1]? = some (.cells #[.slice a bs.length c] 267 (0,0)):=by
  rw [h0]
  have:=heap_alloc_new (w.alloc (.cells #[.int .i64 0] 43)) (.cells #[.slice a bs.length c] 267)
  simpa using this
 refine ⟨⟨Fr2.refl _ _ _,(hA.block S hSl).trans hS,⟨a,c,e2,hb.cap,?_,hb.lt⟩,hBS,by omega,hz⟩,hA,e1⟩
 rcases hb.row with h|⟨b,o,h1,h2,h3⟩
 ·exact .inl h
 ·exact .inr ⟨b,o,h1,h2,by omega,fun i hi=>(hA.cell (p:=⟨b,o+i,none⟩) (by show b<_;omega)).trans (h3 i hi)⟩
set_option maxHeartbeats 1000000 in
set_option maxRecDepth 100000 in
theorem read_dec (B S:Nat) (a:Option Addr) (c:Nat) (bs:List Nat) (w:World) (hb:BelowB B w a c bs) (hBS:B≤S) (hS:w.heap[S]? = some (.cells #[.int .i64 0,.int .i64 0,.int .i64 0,.slice none 0 0,.slice none 0 0,.slice none 0 0] 41 (0,0))) :
  Calls Tryz.prog 76 #[.slice a bs.length c,.func (.func 146) #[] #[.pointer (some ⟨S,0,none⟩)]] w (ReadDec S (dec bs) w):=by
 have hmf:∀ (fn:Fn) (first cap:Array Value) (w:World),(Instr.makeFunc fn first cap).run Tryz.prog w=.ok (.func fn first cap) w:=fun _ _ _ _=>rfl
 have hSl:S<w.heap.size:=(Array.getElem?_eq_some_iff.1 hS).1
 generalize hQ:dec bs=q
 have HQ:=hid hQ
 clear hQ
 go_enter_defers Tryz.func76,Tryz.ntmps76
 go_wp2_with fail
 generalize hW0:World.alloc _ _=w0 at *
 obtain ⟨hD,hA,e1⟩:=read_open hb hBS hS w0 hW0.symm
 clear hW0 hb hS
 refine (dec1_any B S _ bs w0 hD).mono ?_
 intro e w1 h1
 have hz0:=hD.rw
 cases hd:D1 bs with
 | none =>
  have hq:q=none:=by rw [←HQ.out,dec_D1_none hd]
  subst hq
  rw [hd] at h1
  obtain ⟨rfl,hf⟩:=h1
  have e2:=(hf.block _ (by omega) (by omega) (by omega)).trans e1
  obtain ⟨h5,h6⟩:=set1R (i:=0) e2 (.int .i64 30)
  have hz1:=hf.size
  have k5:=box1 h5
  have HR:Hid (w.grownBy ((w1.setCell ⟨w.heap.size,0,none⟩ (.int .i64 30)).alloc (.cells #[.int .i64 30] 269)) (some S)):=hid (((fin_frame hA hf (by omega)).andThen h6 (fun j hj=>by cases hj;exact .inl (Nat.le_refl _))).andThen (World.grownBy_alloc _ _ none) (fun j hj=>by cases hj))
  have k6:((w1.setCell ⟨w.heap.size,0,none⟩ (.int .i64 30)).alloc (.cells #[.int .i64 30] 269)).cell? ⟨w.heap.size,0,none⟩=some (.int .i64 30) :=
   box1 (((World.grownBy_alloc _ _ none).block _ (Array.getElem?_eq_some_iff.1 h5).1 (by simp)).trans h5)
  clear hd h5 h6 k5 hf e1 hA hD
  go_wp2_with fail
  refine leaves_cons (f:=154) (args:=#[.pointer (some ⟨w.heap.size,0,none⟩)]) (by simp) (by simp [go_sem]) ?_
  refine (read1_caught _ w1 _ e2).mono ?_
  rintro e u' w2 ⟨rfl,hu,rfl⟩
  show Leaves _ _ _ _ [] (settle u') _
  rw [hu]
  exact ⟨.int .i64 30,by simp [results,Tryz.results76,go_sem,k6],rfl,HR.out⟩
 | some p =>
  obtain ⟨t,r⟩:=p
  rw [hd] at h1
  obtain ⟨rfl,hf,hr,hs⟩:=h1
  have e2:=(hf.block _ (by omega) (by omega) (by omega)).trans e1
  have hqr:q=if r=[] then some t else none:=by rw [←HQ.out,dec_D1 hd]
  obtain ⟨a2,c2,r1,r2,_⟩:=hr
  have k2:=box1 r1
  have f2:w1.frozen? ⟨w.heap.size,0,none⟩=false:=by simp [World.frozen?,e2]
  have hFr:=fin_frame hA hf (by omega)
  cases r with
  | nil =>
   rw [if_pos rfl] at hqr
   subst hqr
   obtain ⟨h5,h6⟩:=set1R (i:=0) e2 (.int .i64 0)
   have k5:=box1 h5
   have hs0:=hid hs
   have HR:Hid (ReadDec S (some t) w (.returned (.int .i64 0)) (w1.setCell ⟨w.heap.size,0,none⟩ (.int .i64 0))):=hid ⟨rfl,hFr.andThen h6 (fun j hj=>by cases hj;exact .inl (Nat.le_refl _)),(hs.grown h6 (by omega) (by omega)).le hA.size⟩
   have k0:=box1 e2
   clear hd h5 h6 hf e1 hA hD hs hFr r1 hs0 e2
   go_wp2_with fail
   refine leaves_cons (f:=154) (args:=#[.pointer (some ⟨w.heap.size,0,none⟩)]) (by simp) (by simp [go_sem]) ?_
   refine (read1_idle _ _).mono ?_
   rintro e u' w2 ⟨rfl,rfl,rfl⟩
   show Leaves _ _ _ _ [] .returning _
   exact ⟨.int .i64 0,by simp [results,Tryz.results76,go_sem,k5],HR.out⟩
  | cons y r =>
   rw [if_neg (by simp)] at hqr
   subst hqr
   obtain ⟨h5,h6⟩:=set1R (i:=0) e2 (.int .i64 30)
   have k5:=box1 h5
   have hl:0<((y :: r).length:Int):=by rw [List.length_cons];omega
   have HR:Hid (ReadDec S none w (.returned (.int .i64 30)) (w1.setCell ⟨w.heap.size,0,none⟩ (.int .i64 30))):=hid ⟨rfl,hFr.andThen h6 (fun j hj=>by cases hj;exact .inl (Nat.le_refl _))⟩
   have k0:=box1 e2
   clear hd h5 h6 hf e1 hA hD hs hFr r1 e2
   generalize (y :: r).length=m at *
   go_wp2_with fail
   refine leaves_cons (f:=154) (args:=#[.pointer (some ⟨w.heap.size,0,none⟩)]) (by simp) (by simp [go_sem]) ?_
   refine (read1_idle _ _).mono ?_
   rintro e u' w2 ⟨rfl,rfl,rfl⟩
   show Leaves _ _ _ _ [] .returning _
   exact ⟨.int .i64 30,by simp [results,Tryz.results76,go_sem,k5],HR.out⟩

def DecodeRet2 (o:Option Dt) (w:World) (e:Ending) (w':World):Prop:=match o with
 | none=>e=.returned (.tuple #[.agg #[.int .i64 0,.int .i64 0,.int .i64 0,.slice none 0 0,.slice none 0 0,.slice none 0 0],.int .i64 30])∧Below w.heap.size w w'
 | some t=>∃ x:SubV,SameD x (ofD t)∧x.At w'∧Above x w.heap.size∧e=.returned (.tuple #[.agg #[.int .i64 x.s0,.int .i64 x.s1,.int .i64 x.s2,.slice x.ra x.rs.length x.rc,.slice x.sa x.ss.length x.sc,.slice x.wa x.ws.length x.wc],.int .i64 0])∧Below w.heap.size w w'
set_option maxHeartbeats 1000000 in
set_option maxRecDepth 100000 in
theorem decode_any2 (a:Option Addr) (c:Nat) (bs:List Nat) (w:World) (hb:BelowB w.heap.size w a c bs) :
  Calls Tryz.prog 73 #[.slice a bs.length c] w (DecodeRet2 (dec bs) w):=by
 have hmf:∀ (fn:Fn) (first cap:Array Value) (w:World),(Instr.makeFunc fn first cap).run Tryz.prog w=.ok (.func fn first cap) w:=fun _ _ _ _=>rfl
 generalize hQ:dec bs=q
 have HQ:=hid hQ
 clear hQ
 go_enter Tryz.func73,Tryz.ntmps73
 go_wp2_with fail
 generalize hW0:World.alloc _ _=w0 at *
 have hA:Below w.heap.size w w0:=by rw [←hW0];exact below_auto
 have hz:w0.heap.size=w.heap.size+1+1:=by rw [←hW0];simp
 have r0:w0.heap[w.heap.size]? = some (.cells #[.int .i64 0,.int .i64 0,.int .i64 0,.slice none 0 0,.slice none 0 0,.slice none 0 0] 41 (0,0)):=by
  rw [←hW0]
  exact ((World.grownBy_alloc _ _ none).block _ (by simp) (by simp)).trans (heap_alloc_new w _)
 have s0:w0.heap[w.heap.size+1]? = some (.cells #[.int .i64 0,.int .i64 0,.int .i64 0,.slice none 0 0,.slice none 0 0,.slice none 0 0] 41 (0,0)):=by
  rw [←hW0]
  have:=heap_alloc_new (w.alloc (.cells #[.int .i64 0,.int .i64 0,.int .i64 0,.slice none 0 0,.slice none 0 0,.slice none 0 0] 41)) (.cells #[.int .i64 0,.int .i64 0,.int .i64 0,.slice none 0 0,.slice none 0 0,.slice none 0 0] 41)
  simpa using this
 clear hW0
 have hb0:BelowB w.heap.size w0 a c bs:=by
  refine ⟨?_,hb.lt,hb.cap⟩
  rcases hb.row with h|⟨b,o,h1,h2,h3⟩
  ·exact .inl h
  ·exact .inr ⟨b,o,h1,h2,fun i hi=>(hA.cell (p:=⟨b,o+i,none⟩) h2).trans (h3 i hi)⟩
 refine (read_dec w.heap.size (w.heap.size+1) a c bs w0 hb0 (by omega) s0).mono ?_
 intro e w1 h1
 cases hd:dec bs with
 | none =>
  obtain rfl:q=none:=by rw [←HQ.out,hd]
  rw [hd] at h1
  obtain ⟨rfl,hg⟩:=h1
  have r1:=(hg.block _ (by omega) (fun e=>by have:=Option.some.inj e;omega)).trans r0
  have hz1:=hg.size
  have HB:Hid (∀ W,w1.grownBy W (some w.heap.size)→Below w.heap.size w W):=hid fun W hW=>(hA.grown hg (by omega) (fun k hk=>by cases hk;omega)).grown hW (by omega) (fun k hk=>by cases hk;omega)
  obtain ⟨y0,y1,y2,y3,y4,y5⟩:=box6 r1
  have yf:∀ j,w1.frozen? ⟨w.heap.size,j,none⟩=false:=fun j=>by simp [World.frozen?,r1]
  have hs9:=K.set6 r1 (.int .i64 0) (.int .i64 0) (.int .i64 0) (.slice none 0 0) (.slice none 0 0) (.slice none 0 0)
  have HR:=hid (HB.out _ hs9.2)
  clear hs9 r1 r0 s0 hA hg hd hb hb0
  go_wp2_with fail
  refine bodyPost_ret (v:=.tuple #[.agg #[.int .i64 0,.int .i64 0,.int .i64 0,.slice none 0 0,.slice none 0 0,.slice none 0 0],.int .i64 30]) (by simp [results,Tryz.results73,go_sem, *]) rfl ⟨rfl,HR.out⟩
 | some t =>
  obtain rfl:q=some t:=by rw [←HQ.out,hd]
  rw [hd] at h1
  obtain ⟨rfl,hg,x,hx1,hx2,hx3,hx4⟩:=h1
  have r1:=(hg.block _ (by omega) (fun e=>by have:=Option.some.inj e;omega)).trans r0
  have hz1:=hg.size
  have HB:Hid (∀ W,w1.grownBy W (some w.heap.size)→Below w.heap.size w W):=hid fun W hW=>(hA.grown hg (by omega) (fun k hk=>by cases hk;omega)).grown hW (by omega) (fun k hk=>by cases hk;omega)
  obtain ⟨y0,y1,y2,y3,y4,y5⟩:=box6 r1
  obtain ⟨z0,z1,z2,z3,z4,z5⟩:=box6 hx4
  have yf:∀ j,w1.frozen? ⟨w.heap.size,j,none⟩=false:=fun j=>by simp [World.frozen?,r1]
  have hs9:=K.set6 r1 (.int .i64 x.s0) (.int .i64 x.s1) (.int .i64 x.s2) (.slice x.ra x.rs.length x.rc) (.slice x.sa x.ss.length x.sc) (.slice x.wa x.ws.length x.wc)
  have HR:=hid (HB.out _ hs9.2)
  have HX:=hid (at_grown hx2 hx3 hs9.2 (by omega))
  have HX1:=hid hx1
  have HAB:=hid (show Above x w.heap.size from fun a ha=>Nat.le_trans (by omega) (hx3 a ha))
  clear hs9 r1 r0 s0 hA hg hd hb hb0 hx1 hx2 hx3 hx4
  go_wp2_with fail
  refine bodyPost_ret (v:=.tuple #[.agg #[.int .i64 x.s0,.int .i64 x.s1,.int .i64 x.s2,.slice x.ra x.rs.length x.rc,.slice x.sa x.ss.length x.sc,.slice x.wa x.ws.length x.wc],.int .i64 0]) (by simp [results,Tryz.results73,go_sem, *]) rfl ⟨x,HX1.out,HX.out,HAB.out,rfl,HR.out⟩
open Go.Proofs.YtdeeoddacnealaaGreat.K (fsort fsort_mem fsort_strict strict_ext cb cb_code ordF ordS hasE bits)

end Go.Proofs.YtdeeoddacnealaaGreat.P