/- Several texts as one: ZN ZO ZR ZS. -/
import Derived.Test.YtdeeoddacnealaaGreatQ0
import Derived.Test.YtdeeoddacnealaaGreatZL
import Derived.Test.YtdeeoddacnealaaGreatMPA
import Derived.Test.YtdeeoddacnealaaGreatMZA
import Derived.Test.YtdeeoddacnealaaGreatMSB
import Derived.Test.YtdeeoddacnealaaGreatMPY
import Derived.Test.YtdeeoddacnealaaGreatMZD
import Derived.Test.YtdeeoddacnealaaGreatMPE
set_option linter.unusedVariables false
set_option linter.unusedSimpArgs false
namespace Go.Proofs.YtdeeoddacnealaaGreat.K14
open Go.RowKit
open Go.Proofs.YtdeeoddacnealaaGreat.P (PV pvCells packB BL numB bCells)

def rawsP (g off:Nat) (bs:List Nat) (l:List (Nat×Nat)):List PV:=.num l.length :: l.map fun x=>.raw (some ⟨g,off+x.1,none⟩) x.2 ((bs.drop x.1).take x.2)
theorem pcs_pv {g off:Nat} {bs:List Nat} {l:List (Nat×Nat)} (h:∀ x∈l,x.1+x.2≤bs.length):pcs g off l=pvCells (rawsP g off bs l):=by
 have e:∀ l:List (Nat×Nat),(∀ x∈l,x.1+x.2≤bs.length)→(l.flatMap fun x=>[Value.int .i64 3,.int .i64 0,.float .f64 0,.slice (some ⟨g,off+x.1,none⟩) x.2 x.2,.bool false])=(l.map fun x=>PV.raw (some ⟨g,off+x.1,none⟩) x.2 ((bs.drop x.1).take x.2)).flatMap PV.enc:=by
  intro l
  induction l with
  | nil=>intro _;rfl
  | cons x l ih =>
   intro h
   have hx:=h x List.mem_cons_self
   have hl:((bs.drop x.1).take x.2).length=x.2:=by rw [List.length_take,List.length_drop];omega
   rw [List.flatMap_cons,List.map_cons,List.flatMap_cons,ih fun y hy=>h y (List.mem_cons_of_mem _ hy)]
   simp only [PV.enc,hl]
 unfold pcs rawsP pvCells
 rw [List.flatMap_cons,e l h]
 rfl
theorem cuts_in {n k:Nat} (hk:k≤many n):∀ x∈cuts n k,x.1+x.2≤n∧0<x.2∧x.2≤4096:=by
 intro x hx
 obtain ⟨j,hj,rfl⟩:=List.mem_map.1 hx
 have:=List.mem_range.1 hj
 unfold many at hk
 simp only
 omega
end Go.Proofs.YtdeeoddacnealaaGreat.K14
namespace Go.Proofs.YtdeeoddacnealaaGreat.M
open Go.RowKit Fl Go.Maps
open Go.Proofs.YtdeeoddacnealaaGreat.Z (tabS sesB itS TInv SD SIt SL sbytes_any SBRet)
open Go.Proofs.YtdeeoddacnealaaGreat.C (CL CAt Fr Back RecV bytesC bytesC_lt bytesC_n headB recB itsB itB itqsB itqB Inv Rights)
open Go.Proofs.YtdeeoddacnealaaGreat.P (PV pvCells packB BL numB numB_len keyB keyB_len encO NumD bCells)
open Go.Proofs.YtdeeoddacnealaaGreat.K14 (rawsP pcs_pv cuts cuts_length cuts_in many pieces_any)

theorem flat_le {α β:Type} {f:α→List β} {n:Nat}:∀ {l:List α},(∀ x∈l,(f x).length≤n)→(l.flatMap f).length≤n * l.length
 | [],_=>by simp
 | x :: l,h=>by
  have h1:=h x List.mem_cons_self
  have h2:=flat_le fun y hy=>h y (List.mem_cons_of_mem _ hy)
  rw [List.flatMap_cons,List.length_append,List.length_cons,Nat.mul_add];omega
theorem num10 {n:Int} (h:0≤n∧n≤1099511627776):(numB n).length≤10:=numB_len ⟨by omega,by omega⟩
theorem tabS_len {t:List SD} (h:TInv t):(tabS t).length≤10000∧0<(tabS t).length:=by
 have h1:∀ s∈t,(sesB s).length≤270:=fun s hs=>by
  obtain ⟨a,b,c,d⟩:=h.one s hs
  have e:=h.len hs
  have h2:=flat_le (f:=itS) (n:=30) (l:=s.ks) fun x hx=>by
   have:=d x hx
   have h3:=num10 (n:=x.seq) (by omega);have h4:=num10 (n:=x.code) (by omega);have h5:=num10 (n:=x.num) (by omega)
   unfold itS
   simp only [List.length_append];omega
  have h3:=num10 (n:=s.id) (by omega);have h4:=num10 (n:=s.hi) (by omega);have h5:=num10 (n:=(s.ks.length:Int)) (by omega)
  unfold sesB
  simp only [List.length_append];omega
 have h2:=flat_le h1
 have h3:=h.many
 have h4:=num10 (n:=(t.length:Int)) (by omega)
 unfold tabS
 rw [List.length_append]
 refine ⟨by omega,?_⟩
 have:0<(numB t.length).length:=by unfold numB;by_cases h:P.zig t.length<128;rw [P.vlq_lt h];simp;rw [P.vlq_ge h];simp
 omega
theorem tabS_lt (t:List SD):∀ b∈tabS t,b<256:=by
 intro b hb
 unfold tabS at hb
 simp only [List.mem_append,List.mem_flatMap] at hb
 rcases hb with hb|⟨s,_,hb⟩
 ·exact P.numB_byte _ b hb
 ·unfold sesB itS at hb
  simp only [List.mem_append,List.mem_flatMap] at hb
  rcases hb with ((hb|hb)|hb)|⟨x,_,(hb|hb)|hb⟩ <;> exact P.numB_byte _ b hb
theorem bytesC_len {B T:Nat} {c:CL} {ow:Nat→Nat} {w:World} (h:CAt B T c ow w) (hB:Back c):(bytesC c).length≤1000000∧0<(bytesC c).length:=by
 obtain ⟨ds,m,F,hI,hr,hs,hF⟩:=hB
 have hc:=h.cnt
 have hk:=h.kp
 have key:∀ {f:SubV→List Nat} {its:List ItV},C.TbF ds f its→∀ x∈its,0≤x.n∧x.n≤1099511627776:=fun t x hx=>by
  have h1:=t.ps x hx
  obtain ⟨r,h2,h3,_⟩:=t.fr x hx
  have h4:=(hI.num h2).2
  have h5:(CL.n c).count=c.count:=rfl
  omega
 have tb:∀ {f:SubV→List Nat} {its:List ItV},C.TbF ds f its→its.length≤64→(itsB its).length≤1200:=fun {f its} t hl=>by
  have h1:=flat_le (f:=itB) (n:=18) (l:=its) fun x hx=>by
   have:=num10 (key t x hx)
   unfold itB
   rw [List.length_append,keyB_len];omega
  have:=num10 (n:=(its.length:Int)) (by omega)
  unfold itsB
  rw [List.length_append];omega
 have l1:=h.k1.le;have m1:=h.k1.m64
 have l2:=h.k2.le;have m2:=h.k2.m64
 have l3:=h.k3.le;have m3:=h.k3.m64
 have l4:=h.k4.le;have m4:=h.k4.m64
 have b1:=tb hI.tabs.h1 (show c.i1.length≤64 by omega)
 have b2:=tb hI.tabs.h2 (show c.i2.length≤64 by omega)
 have b3:=tb hI.tabs.h3 (show c.i3.length≤64 by omega)
 have b1:(itsB c.i1).length≤1200:=b1
 have b2:(itsB c.i2).length≤1200:=b2
 have b3:(itsB c.i3).length≤1200:=b3
 have b4:(itqsB c.i4).length≤2000:=by
  have h1:=flat_le (f:=itqB) (n:=26) (l:=c.i4) fun x hx=>by
   have h1:=hI.tabs.h4.ps x hx
   obtain ⟨r,h2,h3,_⟩:=hI.tabs.h4.fr x hx
   have h4:=(hI.num h2).2
   have h5:(CL.n c).count=c.count:=rfl
   have:=num10 (n:=x.n) (by omega)
   unfold itqB
   simp only [List.length_append,keyB_len];omega
  have:=num10 (n:=(c.i4.length:Int)) (by omega)
  unfold itqsB
  rw [List.length_append];omega
 have b5:=flat_le (f:=recB) (n:=4200) (l:=c.recs) fun r hr'=>by
  have h1:C.RecV.n r∈(CL.n c).recs:=List.mem_map_of_mem hr'
  rw [hI.recs] at h1
  have h2:=C.encO_len2 (h.subs r hr').at_ (hr (C.RecV.n r) (List.mem_of_mem_drop h1))
  have h3:=num10 (n:=((encO r.s).length:Int)) (by omega)
  unfold recB
  simp only [List.length_cons,List.length_append];omega
 have h1:=num10 (n:=c.count) (by omega);have h2:=num10 (n:=c.horizon) (by omega);have h3:=num10 (n:=(c.recs.length:Int)) (by omega)
 unfold bytesC headB
 simp only [List.length_append]
 refine ⟨by omega,?_⟩
 have:0<(numB c.count).length:=by unfold numB;by_cases h:P.zig c.count<128;rw [P.vlq_lt h];simp;rw [P.vlq_ge h];simp
 omega

def piecesB (bs:List Nat):List Nat:=packB (rawsP 0 0 bs (cuts bs.length (many bs.length)))
theorem rawsP_bytes (g off:Nat) (bs:List Nat) (l:List (Nat×Nat)):packB (rawsP g off bs l)=packB (rawsP 0 0 bs l):=by
 unfold rawsP packB
 simp only [List.flatMap_cons,List.flatMap_map]
 rfl
def PRow (B:Nat) (v:Value) (L:List Nat) (w:World):Prop:=∃ (a:Option Addr) (c:Nat) (vs:List PV),v=.slice a vs.length c∧w.ownsRow B 136 5 v vs.length (pvCells vs)∧packB vs=L∧(0<vs.length∧vs.length≤1000)∧(∀ x∈vs,x.ok)∧∀ x∈vs,x.lies w
theorem PRow.below {B:Nat} {v:Value} {L:List Nat} {w w':World} (h:PRow B v L w) (hb:Below w.heap.size w w'):PRow B v L w':=by
 obtain ⟨a,c,vs,h1,h2,h3,h4,h5,h6⟩:=h
 exact ⟨a,c,vs,h1,C.row_kept h2 fun g e=>hb.block g (h2.lt g e).2,h3,h4,h5,fun x hx=>PV.lies_below (h6 x hx) hb⟩
theorem PRow.le {B B':Nat} {v:Value} {L:List Nat} {w:World} (h:PRow B v L w) (hB:B'≤B):PRow B' v L w:=by
 obtain ⟨a,c,vs,h1,h2,h3⟩:=h
 exact ⟨a,c,vs,h1,K.own_le h2 hB,h3⟩
def BRow (B:Nat) (v:Value) (L:List Nat) (w:World):Prop:=∃ (a:Option Addr) (c:Nat),v=.slice a L.length c∧w.ownsRow B 5 1 v L.length (bCells L)
theorem bl_part {w:World} {g c B:Nat} {L:List Nat} (h:w.ownsRow B 5 1 (.slice (some ⟨g,0,none⟩) L.length c) L.length (bCells L)) {i n:Nat} (hi:i+n≤L.length):BL w (some ⟨g,0+i,none⟩) ((L.drop i).take n):=by
 rcases h.2 with ⟨h1,_⟩|⟨g',cap,cur,h1,_,h3,_⟩
 ·cases h1
 ·cases h1
  refine ⟨g,0+i,cur,(0,0),rfl,h3,fun j hj=>?_⟩
  have hj':j<n:=by rw [List.length_take] at hj;omega
  have hl:i+j<L.length:=by omega
  have:=h.cells (g:=g) rfl (i+j) (.int .u8 (L[i+j]?.getD 0:Nat)) (by unfold bCells;rw [List.getElem?_map,List.getElem?_eq_getElem hl];simp)
  rw [K.addr0,cell_of_row w _ _ _ _ (0,0) h3] at this
  rw [List.getElem?_take,if_pos hj',List.getElem?_drop,Nat.zero_add];exact this
theorem pieces_of {B:Nat} {v:Value} {L:List Nat} {w:World} (h:BRow B v L w) (hlt:∀ b∈L,b<256) (hl:L.length≤1000000∧0<L.length) :
  Calls Tryz.prog 93 #[v] w fun e w'=>∃ u,e=.returned u∧PRow w.heap.size u (piecesB L) w'∧Below w.heap.size w w':=by
 obtain ⟨a,c,rfl,h2⟩:=h
 obtain ⟨g,rfl,hc⟩:∃ g,a=some ⟨g,0,none⟩∧L.length≤c:=by
  rcases h2.2 with ⟨_,h3⟩|⟨g,cap,cur,h3,_,_,h4,_⟩
  ·omega
  ·cases h3;exact ⟨g,rfl,h4⟩
 refine (pieces_any g 0 L.length c w hc (by omega)).mono ?_
 rintro e w' ⟨u,rfl,h3,hb⟩
 have hin:=cuts_in (Nat.le_refl (many L.length))
 rw [pcs_pv fun x hx=>(hin x hx).1] at h3
 have hlen:(rawsP g 0 L (cuts L.length (many L.length))).length=many L.length+1:=by unfold rawsP;simp [cuts_length]
 rw [←hlen] at h3
 obtain ⟨a',c',rfl⟩:=P.own_sliceV h3
 have hown:=C.row_kept h2 fun g e=>hb.block g (h2.lt g e).2
 refine ⟨_,rfl,⟨a',c',_,rfl,h3,rawsP_bytes _ _ _ _,by rw [hlen];unfold many;omega,fun x hx=>?_,fun x hx=>?_⟩,hb⟩
 ·unfold rawsP at hx
  rcases List.mem_cons.1 hx with rfl|hx
  ·show NumD _
   rw [cuts_length];unfold many;exact ⟨by omega,by omega⟩
  ·obtain ⟨y,hy,rfl⟩:=List.mem_map.1 hx
   have h5:=hin y hy
   have h6:((L.drop y.1).take y.2).length=y.2:=by rw [List.length_take,List.length_drop];omega
   exact ⟨fun b hb'=>hlt b (List.mem_of_mem_drop (List.mem_of_mem_take hb')),by rw [h6];omega,by rw [h6];omega⟩
 ·unfold rawsP at hx
  rcases List.mem_cons.1 hx with rfl|hx
  ·trivial
  ·obtain ⟨y,hy,rfl⟩:=List.mem_map.1 hx
   exact bl_part hown (hin y hy).1
theorem lies_grown {w w':World} {x:PV} {u:Value} {n B:Nat} {cs:List Value} (hx:x.lies w) (hown:w.ownsRow B 136 5 u n cs) (hg:w.grownBy w' u.ownBlock):x.lies w':=by
 cases x with
 | raw a c l =>
  obtain ⟨g,o,cr,fr',h1,h2,h3⟩:=hx
  refine ⟨g,o,cr,fr',h1,(hg.block g (Array.getElem?_eq_some_iff.1 h2).1 fun e=>?_).trans h2,h3⟩
  rcases hown.2 with ⟨h4,_⟩|⟨g',cap,cur,h4,_,h5,_⟩
  ·rw [h4] at e;cases e
  ·rw [h4] at e;cases e
   rw [h2] at h5;simp at h5
 | _=>trivial
theorem PRow.app {B:Nat} {u v:Value} {K L:List Nat} {w:World} (h:PRow B u K w) (k:PRow B v L w) (hB:B≤w.heap.size) :
  ∃ z w',(∀ ty,(Builtin.append_ #[134,134] ty #[u,v]).run Tryz.prog w=.ok z w')∧(∃ (a:Option Addr) (c:Nat) (vs:List PV),z=.slice a vs.length c∧w'.ownsRow B 136 5 z vs.length (pvCells vs)∧packB vs=K++L∧vs.length≤2000∧(∀ x∈vs,x.ok)∧∀ x∈vs,x.lies w')∧Below B w w':=by
 obtain ⟨a,c,vs,rfl,h2,h3,h4,h5,h6⟩:=h
 obtain ⟨a',c',us,rfl,k2,k3,k4,k5,k6⟩:=k
 obtain ⟨g,rfl⟩:∃ g,a'=some ⟨g,0,none⟩:=by
  rcases k2.2 with ⟨_,h3⟩|⟨g,cap,cur,h3,_⟩
  ·omega
  ·cases h3;exact ⟨g,rfl⟩
 obtain ⟨i0,hi0,hz0,hzs,hzb⟩:=info_parts P.valInfo
 obtain ⟨v',w',hr,e2,e3⟩:=run_append_own2 (P:=Tryz.prog) w B 134 136 i0 _ 5 56 Tryz.underlying134 hi0 hz0 hzs hzb rfl (by omega) _ _ _ h2 ⟨g,0,none⟩ us.length c' (pvCells us) (P.pvCells_len us)
  (fun j u hj=>k2.cells (g:=g) rfl j u hj) (fun u hu=>by
   obtain ⟨y,_,hy⟩:=List.mem_flatMap.1 hu
   exact PV.enc_one y u hy) k4.1 (by unfold maxLen;omega) (by omega) hB
 have hc:pvCells vs++pvCells us=pvCells (vs++us):=by simp [pvCells]
 have hl:vs.length+us.length=(vs++us).length:=by simp
 rw [hc,hl] at e2
 obtain ⟨b',d',rfl⟩:=P.own_sliceV e2
 refine ⟨_,w',hr,⟨b',d',_,rfl,e2,by simp [packB,←h3,←k3],by omega,fun x hx=>?_,fun x hx=>?_⟩,(Below.refl B w).grown e3.1 hB fun k hk=>(h2.lt k hk).1⟩
 ·rcases List.mem_append.1 hx with hx|hx
  ·exact h5 x hx
  ·exact k5 x hx
 ·rcases List.mem_append.1 hx with hx|hx
  ·exact lies_grown (h6 x hx) h2 e3.1
  ·exact lies_grown (k6 x hx) h2 e3.1
def ZRow (B:Nat) (z:Value) (L:List Nat) (w:World):Prop:=∃ (a:Option Addr) (c:Nat) (vs:List PV),z=.slice a vs.length c∧w.ownsRow B 136 5 z vs.length (pvCells vs)∧packB vs=L∧vs.length≤2000∧(∀ x∈vs,x.ok)∧∀ x∈vs,x.lies w
theorem ZRow.put {B:Nat} {z:Value} {L:List Nat} {w:World} (h:ZRow B z L w):Calls Tryz.prog 64 #[z] w (P.PutRet w L):=by
 obtain ⟨a,c,vs,rfl,h2,rfl,h4,h5,h6⟩:=h
 refine P.put_any a c vs.length vs w rfl ?_ h5 h6 (by omega)
 by_cases h0:vs=[]
 ·exact .inl h0
 rcases h2.2 with ⟨_,h3⟩|⟨g,cap,cur,h3,_,h7,_⟩
 ·exact .inl (List.length_eq_zero_iff.1 h3)
 ·cases h3
  refine .inr ⟨g,rfl,(Array.getElem?_eq_some_iff.1 h7).1,fun i t v u hv hu=>?_⟩
  have ht:t<5:=by rw [←PV.enc_len v];exact (List.getElem?_eq_some_iff.1 hu).1
  have:=h2.cells (g:=g) rfl (i * 5+t) u ((flat_get PV.enc_len hv ht).trans hu)
  rwa [K.addr0] at this

def bytesM (m:MD):List Nat:=piecesB (bytesC m.c)++piecesB (tabS m.t)
theorem piecesB_lt {bs:List Nat} (h:∀ b∈bs,b<256):∀ b∈piecesB bs,b<256:=by
 intro b hb
 unfold piecesB packB rawsP at hb
 rw [List.flatMap_cons,List.flatMap_map] at hb
 rcases List.mem_append.1 hb with hb|hb
 ·exact P.numB_byte _ b hb
 ·obtain ⟨x,_,hb⟩:=List.mem_flatMap.1 hb
  rcases List.mem_append.1 hb with hb|hb
  ·exact P.numB_byte _ b hb
  ·exact h b (List.mem_of_mem_drop (List.mem_of_mem_take hb))
theorem bytesM_lt (m:MD):∀ b∈bytesM m,b<256:=by
 intro b hb
 rcases List.mem_append.1 hb with hb|hb
 ·exact piecesB_lt (bytesC_lt m.c) b hb
 ·exact piecesB_lt (tabS_lt m.t) b hb
def MR (Y0:World) (x y L:List Nat):List Value→World→Prop
 | [],X=>X=Y0
 | [v],X=>BRow Y0.heap.size v x X∧Below Y0.heap.size Y0 X
 | [_,v],X=>PRow Y0.heap.size v (piecesB x) X∧Below Y0.heap.size Y0 X
 | [_,v,u],X=>(PRow Y0.heap.size v (piecesB x) X∧BRow Y0.heap.size u y X)∧Below Y0.heap.size Y0 X
 | [_,v,_,u],X=>(PRow Y0.heap.size v (piecesB x) X∧PRow Y0.heap.size u (piecesB y) X)∧Below Y0.heap.size Y0 X
 | [_,_,_,_,z],X=>ZRow Y0.heap.size z L X∧Below Y0.heap.size Y0 X
 | _ :: _ :: _ :: _ :: _ :: t :: _,X=>(∃ a c,t=.tuple #[.slice a L.length c,.int .i64 0]∧X.ownsRow Y0.heap.size 5 1 (.slice a L.length c) L.length (bCells L))∧Below Y0.heap.size Y0 X
theorem MR.blw {Y0:World} {x y L:List Nat}:∀ {ms:List Value} {X:World},MR Y0 x y L ms X→Below Y0.heap.size Y0 X
 | [],_,h=>by rw [show _=Y0 from h];exact Below.refl _ _
 | [_],_,h=>h.2
 | [_,_],_,h=>h.2
 | [_,_,_],_,h=>h.2
 | [_,_,_,_],_,h=>h.2
 | [_,_,_,_,_],_,h=>h.2
 | _ :: _ :: _ :: _ :: _ :: _ :: _,_,h=>h.2
def exT (v:Value) (i:Nat):Value:=match v with | .tuple xs=>xs.getD i undef|_=>undef
def MBRet' (L:List Nat) (w:World) (e:Ending) (w':World):Prop:=∃ a c,e=.returned (.slice a L.length c)∧w'.ownsRow w.heap.size 5 1 (.slice a L.length c) L.length (bCells L)∧Below w.heap.size w w'
set_option maxHeartbeats 4000000 in
set_option maxRecDepth 100000 in
theorem mBytes_any {B T:Nat} {s:MS} {w:World} (h:MAt B T s w):Calls Tryz.prog 36 #[.pointer (some ⟨T,0,none⟩)] w (MBRet' (bytesM s.d) w):=by
 have hbx:=h.box
 have HLC:=hid (bytesC_len h.cert h.back)
 have HLS:=hid (tabS_len h.inv)
 have HCB:=hid fun W (hb:Below w.heap.size w W)=>C.Back.bytes (h.below hb).cert h.back
 have HSB:=hid fun W (hb:Below w.heap.size w W)=>sbytes_any (h.below hb).sess h.inv
 unfold C.BytesRet at HCB
 unfold SBRet at HSB
 have HBC:=hid (bytesC_lt s.c);have HBS:=hid (tabS_lt (s.os.map SL.d))
 have HD:=hid (show bytesM s.d=piecesB (bytesC s.c)++piecesB (tabS (s.os.map SL.d)) from by unfold bytesM MS.d;simp only [bytesC_n])
 obtain ⟨L,hL⟩:∃ L,L=bytesM s.d:=⟨_,rfl⟩
 rw [←hL]
 rw [HD.out] at hL
 generalize bytesC s.c=x at *
 generalize tabS (s.os.map SL.d)=y at *
 generalize s.tc=tc at *
 generalize s.ts=ts at *
 have HL:=hid hL
 clear h HD hL
 go_enter Tryz.func36,Tryz.ntmps36
 go_upto_region 1 with fail
 obtain ⟨Y0,hY0⟩:∃ Y:World,Y = { w with drawn:=w.drawn+1 }:=⟨_,rfl⟩
 have HY0:=hid hY0
 have hb0:Below w.heap.size w Y0:=by rw [hY0];exact Below.drew (Below.refl _ _)
 have HBX:=hid ((hb0.block T (Array.getElem?_eq_some_iff.1 hbx).1).trans hbx)
 have hTY:=Nat.lt_of_lt_of_le (Array.getElem?_eq_some_iff.1 hbx).1 hb0.size
 have HB0:=hid hb0
 clear hY0 hb0 hbx
 refine wp_region_chainV [(0,fun _=>.pointer (some ⟨T,0,none⟩)),(0,fun _=>.pointer (some ⟨T,0,none⟩)),(0,fun _=>.pointer (some ⟨T,0,none⟩)),(0,fun _=>.pointer (some ⟨tc,0,none⟩)),(1,fun ms=>ms.getD 0 undef),(2,fun ms=>ms.getD 1 undef),(0,fun _=>.pointer (some ⟨T,0,none⟩)),(0,fun _=>.pointer (some ⟨T,0,none⟩)),(0,fun _=>.pointer (some ⟨T,1,none⟩)),(0,fun _=>.pointer (some ⟨ts,0,none⟩)),(3,fun ms=>ms.getD 2 undef),(4,fun ms=>ms.getD 3 undef),(5,fun ms=>ms.getD 4 undef),(6,fun ms=>ms.getD 5 undef),(6,fun ms=>ms.getD 5 undef),(6,fun ms=>exT (ms.getD 5 undef) 0),(6,fun ms=>exT (ms.getD 5 undef) 1),(6,fun ms=>exT (ms.getD 5 undef) 0),(6,fun ms=>exT (ms.getD 5 undef) 1)] (MR Y0 x y L) (fun _ _=>False) [4,5,10,11,12,13] rfl (by kernel_rfl) (by kernel_rfl) (by kernel_rfl) (by decide) (by decide) HY0.out.symm ?_ ?_ ?_
 ·simp only [StepsV,List.nil_append,List.cons_append,Nat.zero_add,Nat.reduceAdd]
  refine ⟨?_,?_,?_,?_,?_,?_,?_,?_,?_,?_,?_,?_,?_,?_,?_,?_,?_,?_,?_,trivial⟩
  ·skip
   intro ms X g1 g2 hx
   refine mM ?_
   generalize hR:(fun v w'=>(_→v=_)∧_)=RR
   have HR:=hid hR
   have HXX:=hid hx
   clear hR g1 g2 hx
   try refine mV ?_
   go_wp2_with fail
   have hR:=HR.out
   subst hR
   exact ⟨rfl,fun _=>rfl,HXX.out⟩
  ·skip
   intro ms X g1 g2 hx
   refine mM ?_
   generalize hR:(fun v w'=>(_→v=_)∧_)=RR
   have HR:=hid hR
   have HXX:=hid hx
   clear hR g1 g2 hx
   try refine mV ?_
   go_wp2_with fail
   have hR:=HR.out
   subst hR
   exact ⟨rfl,fun _=>rfl,HXX.out⟩
  ·skip
   intro ms X g1 g2 hx
   refine mM ?_
   generalize hR:(fun v w'=>(_→v=_)∧_)=RR
   have HR:=hid hR
   have HXX:=hid hx
   clear hR g1 g2 hx
   try refine mV ?_
   go_wp2_with fail
   have hR:=HR.out
   subst hR
   exact ⟨rfl,fun _=>rfl,HXX.out⟩
  ·skip
   intro ms X g1 g2 hx
   have bx:=(hx.blw.block T hTY).trans HBX.out
   obtain ⟨b0,b1,b2,-,bl⟩:=box3 bx
   refine mM ?_
   generalize hR:(fun v w'=>(_→v=_)∧_)=RR
   have HR:=hid hR
   have HXX:=hid hx
   clear hR g1 g2 hx bx
   try refine mV ?_
   go_wp2_with fail
   have hR:=HR.out
   subst hR
   exact ⟨rfl,fun _=>rfl,HXX.out⟩
  ·skip
   intro ms X g1 g2 hx
   have hl:ms.length=0:=Nat.le_antisymm (Nat.le_trans g2 (by decide +kernel)) (Nat.le_trans (by decide +kernel) g1)
   obtain rfl:=P.ls0 hl
   obtain rfl:X=Y0:=hx
   refine mM ?_
   generalize hR:(fun v w'=>(_→v=_)∧_)=RR
   have HR:=hid hR
   clear hR g1 g2 hl
   refine mV ?_
   have HC:=hid (HCB.out X HB0.out)
   go_wp2_with fail
   refine HC.out.mono ?_
   rintro e X2 ⟨a,c,rfl,h3,h4⟩
   have HE:Hid (MR X x y L [.slice a x.length c] X2):=hid (⟨⟨a,c,rfl,h3⟩,h4⟩)
   clear HC
   go_wp2_with fail
   have hR:=HR.out
   subst hR
   exact ⟨rfl,fun _=>rfl,HE.out⟩
  ·skip
   intro ms X g1 g2 hx
   have hl:ms.length=1:=Nat.le_antisymm (Nat.le_trans g2 (by decide +kernel)) (Nat.le_trans (by decide +kernel) g1)
   obtain ⟨v0,rfl⟩:=P.ls1 hl
   refine mM ?_
   generalize hR:(fun v w'=>(_→v=_)∧_)=RR
   have HR:=hid hR
   clear hR g1 g2 hl
   refine mV ?_
   have HC:=hid (pieces_of hx.1 HBC.out HLC.out)
   go_wp2_with fail
   refine HC.out.mono ?_
   rintro e X2 ⟨u,rfl,h3,h4⟩
   have HE:Hid (MR Y0 x y L [v0,u] X2):=hid (⟨h3.le hx.2.size,hx.2.trans (h4.mono hx.2.size)⟩)
   clear HC
   go_wp2_with fail
   have hR:=HR.out
   subst hR
   exact ⟨rfl,fun _=>rfl,HE.out⟩
  ·skip
   intro ms X g1 g2 hx
   refine mM ?_
   generalize hR:(fun v w'=>(_→v=_)∧_)=RR
   have HR:=hid hR
   have HXX:=hid hx
   clear hR g1 g2 hx
   try refine mV ?_
   go_wp2_with fail
   have hR:=HR.out
   subst hR
   exact ⟨rfl,fun _=>rfl,HXX.out⟩
  ·skip
   intro ms X g1 g2 hx
   refine mM ?_
   generalize hR:(fun v w'=>(_→v=_)∧_)=RR
   have HR:=hid hR
   have HXX:=hid hx
   clear hR g1 g2 hx
   try refine mV ?_
   go_wp2_with fail
   have hR:=HR.out
   subst hR
   exact ⟨rfl,fun _=>rfl,HXX.out⟩
  ·skip
   intro ms X g1 g2 hx
   refine mM ?_
   generalize hR:(fun v w'=>(_→v=_)∧_)=RR
   have HR:=hid hR
   have HXX:=hid hx
   clear hR g1 g2 hx
   try refine mV ?_
   go_wp2_with fail
   have hR:=HR.out
   subst hR
   exact ⟨rfl,fun _=>rfl,HXX.out⟩
  ·skip
   intro ms X g1 g2 hx
   have bx:=(hx.blw.block T hTY).trans HBX.out
   obtain ⟨b0,b1,b2,-,bl⟩:=box3 bx
   refine mM ?_
   generalize hR:(fun v w'=>(_→v=_)∧_)=RR
   have HR:=hid hR
   have HXX:=hid hx
   clear hR g1 g2 hx bx
   try refine mV ?_
   go_wp2_with fail
   have hR:=HR.out
   subst hR
   exact ⟨rfl,fun _=>rfl,HXX.out⟩
  ·skip
   intro ms X g1 g2 hx
   have hl:ms.length=2:=Nat.le_antisymm (Nat.le_trans g2 (by decide +kernel)) (Nat.le_trans (by decide +kernel) g1)
   obtain ⟨v0,v1,rfl⟩:=P.ls2 hl
   refine mM ?_
   generalize hR:(fun v w'=>(_→v=_)∧_)=RR
   have HR:=hid hR
   clear hR g1 g2 hl
   refine mV ?_
   have HC:=hid (HSB.out X (HB0.out.trans (hx.2.mono HB0.out.size)))
   go_wp2_with fail
   refine HC.out.mono ?_
   rintro e X2 ⟨a,c,rfl,h3,h4⟩
   have HE:Hid (MR Y0 x y L [v0,v1,.slice a y.length c] X2):=hid (⟨⟨hx.1.below h4,a,c,rfl,K.own_le h3 hx.2.size⟩,hx.2.trans (h4.mono hx.2.size)⟩)
   clear HC
   go_wp2_with fail
   have hR:=HR.out
   subst hR
   exact ⟨rfl,fun _=>rfl,HE.out⟩
  ·skip
   intro ms X g1 g2 hx
   have hl:ms.length=3:=Nat.le_antisymm (Nat.le_trans g2 (by decide +kernel)) (Nat.le_trans (by decide +kernel) g1)
   obtain ⟨v0,v1,v2,rfl⟩:=P.ls3 hl
   refine mM ?_
   generalize hR:(fun v w'=>(_→v=_)∧_)=RR
   have HR:=hid hR
   clear hR g1 g2 hl
   refine mV ?_
   have HC:=hid (pieces_of hx.1.2 HBS.out ⟨Nat.le_trans HLS.out.1 (by decide),HLS.out.2⟩)
   go_wp2_with fail
   refine HC.out.mono ?_
   rintro e X2 ⟨u,rfl,h3,h4⟩
   have HE:Hid (MR Y0 x y L [v0,v1,v2,u] X2):=hid (⟨⟨hx.1.1.below h4,h3.le hx.2.size⟩,hx.2.trans (h4.mono hx.2.size)⟩)
   clear HC
   go_wp2_with fail
   have hR:=HR.out
   subst hR
   exact ⟨rfl,fun _=>rfl,HE.out⟩
  ·skip
   intro ms X g1 g2 hx
   have hl:ms.length=4:=Nat.le_antisymm (Nat.le_trans g2 (by decide +kernel)) (Nat.le_trans (by decide +kernel) g1)
   obtain ⟨v0,v1,v2,v3,rfl⟩:=P.ls4 hl
   refine mM ?_
   generalize hR:(fun v w'=>(_→v=_)∧_)=RR
   have HR:=hid hR
   clear hR g1 g2 hl
   refine mV ?_
   obtain ⟨z,X2,hr,h3,h4⟩:=hx.1.1.app hx.1.2 hx.2.size
   rw [←HL.out] at h3
   have HE:Hid (MR Y0 x y L [v0,v1,v2,v3,z] X2):=hid ⟨h3,hx.2.trans h4⟩
   clear hx h3 h4
   go_wp2_with (at_builtin;refine Lib.wpList_append_run _ rfl _ _ _ _ rfl _ _ rfl rfl _ _ (hr _) ?_)
   have hR:=HR.out
   subst hR
   exact ⟨rfl,fun _=>rfl,HE.out⟩
  ·skip
   intro ms X g1 g2 hx
   have hl:ms.length=5:=Nat.le_antisymm (Nat.le_trans g2 (by decide +kernel)) (Nat.le_trans (by decide +kernel) g1)
   obtain ⟨v0,v1,v2,v3,v4,rfl⟩:=P.ls5 hl
   refine mM ?_
   generalize hR:(fun v w'=>(_→v=_)∧_)=RR
   have HR:=hid hR
   clear hR g1 g2 hl
   refine mV ?_
   have HC:=hid (hx.1.put)
   go_wp2_with fail
   refine HC.out.mono ?_
   rintro e X2 ⟨a,c,rfl,h3,h4⟩
   have HE:Hid (MR Y0 x y L [v0,v1,v2,v3,v4,.tuple #[.slice a L.length c,.int .i64 0]] X2):=hid (⟨⟨a,c,rfl,K.own_le h3 hx.2.size⟩,hx.2.trans (h4.mono hx.2.size)⟩)
   clear HC
   go_wp2_with fail
   have hR:=HR.out
   subst hR
   exact ⟨rfl,fun _=>rfl,HE.out⟩
  ·skip
   intro ms X g1 g2 hx
   have hlk:ms.length=6:=Nat.le_antisymm (Nat.le_trans g2 (by decide +kernel)) (Nat.le_trans (by decide +kernel) g1)
   obtain ⟨v0,v1,v2,v3,v4,v5,rfl⟩:=C.ls6 hlk
   refine mM ?_
   generalize hR:(fun v w'=>(_→v=_)∧_)=RR
   have HR:=hid hR
   have HXX:=hid hx
   clear hR g1 g2 hx hlk
   try refine mV ?_
   go_wp2_with fail
   have hR:=HR.out
   subst hR
   exact ⟨rfl,fun _=>rfl,HXX.out⟩
  ·skip
   intro ms X g1 g2 hx
   have hlk:ms.length=6:=Nat.le_antisymm (Nat.le_trans g2 (by decide +kernel)) (Nat.le_trans (by decide +kernel) g1)
   obtain ⟨v0,v1,v2,v3,v4,v5,rfl⟩:=C.ls6 hlk
   obtain ⟨⟨a9,c9,e9,-⟩,-⟩:=id hx
   subst e9
   refine mM ?_
   generalize hR:(fun v w'=>(_→v=_)∧_)=RR
   have HR:=hid hR
   have HXX:=hid hx
   clear hR g1 g2 hx hlk
   try refine mV ?_
   go_wp2_with fail
   have hR:=HR.out
   subst hR
   exact ⟨rfl,fun _=>rfl,HXX.out⟩
  ·skip
   intro ms X g1 g2 hx
   have hlk:ms.length=6:=Nat.le_antisymm (Nat.le_trans g2 (by decide +kernel)) (Nat.le_trans (by decide +kernel) g1)
   obtain ⟨v0,v1,v2,v3,v4,v5,rfl⟩:=C.ls6 hlk
   obtain ⟨⟨a9,c9,e9,-⟩,-⟩:=id hx
   subst e9
   refine mM ?_
   generalize hR:(fun v w'=>(_→v=_)∧_)=RR
   have HR:=hid hR
   have HXX:=hid hx
   clear hR g1 g2 hx hlk
   try refine mV ?_
   go_wp2_with fail
   have hR:=HR.out
   subst hR
   exact ⟨rfl,fun _=>rfl,HXX.out⟩
  ·skip
   intro ms X g1 g2 hx
   have hlk:ms.length=6:=Nat.le_antisymm (Nat.le_trans g2 (by decide +kernel)) (Nat.le_trans (by decide +kernel) g1)
   obtain ⟨v0,v1,v2,v3,v4,v5,rfl⟩:=C.ls6 hlk
   refine mM ?_
   generalize hR:(fun v w'=>(_→v=_)∧_)=RR
   have HR:=hid hR
   have HXX:=hid hx
   clear hR g1 g2 hx hlk
   try refine mV ?_
   go_wp2_with fail
   have hR:=HR.out
   subst hR
   exact ⟨rfl,fun _=>rfl,HXX.out⟩
  ·skip
   intro ms X g1 g2 hx
   have hlk:ms.length=6:=Nat.le_antisymm (Nat.le_trans g2 (by decide +kernel)) (Nat.le_trans (by decide +kernel) g1)
   obtain ⟨v0,v1,v2,v3,v4,v5,rfl⟩:=C.ls6 hlk
   refine mM ?_
   generalize hR:(fun v w'=>(_→v=_)∧_)=RR
   have HR:=hid hR
   have HXX:=hid hx
   clear hR g1 g2 hx hlk
   try refine mV ?_
   go_wp2_with fail
   have hR:=HR.out
   subst hR
   exact ⟨rfl,fun _=>rfl,HXX.out⟩
 ·intro ms X hl hx
  obtain ⟨v0,v1,v2,v3,v4,v5,rfl⟩:=C.ls6 hl
  obtain ⟨⟨a,c,rfl,h3⟩,h4⟩:=hx
  have hz:=HB0.out.size
  have HF:Hid (MBRet' L w (.returned (.slice a L.length c)) X):=hid ⟨a,c,rfl,K.own_le h3 hz,HB0.out.trans (h4.mono hz)⟩
  clear hl h3 h4 hz HCB HSB HBX HLC HLS HBC HBS HY0
  generalize L.length=n at *
  refine mV ?_
  go_wp2_with fail
  go_ret
  exact HF.out
 ·exact fun _ _ _ _ h=>h.elim
open Go.Proofs.YtdeeoddacnealaaGreat.Z
open Go.Proofs.YtdeeoddacnealaaGreat.P (BelowB)

structure TwoM (B T1 T2:Nat) (s1 s2:MS) (w:World):Prop where
 m:MAt B T1 s1 w
 n:MAt B T2 s2 w
 two:∀ k,s1.own T1 k→¬s2.own T2 k
section
variable {B T1 T2 : Nat} {s1 s2 s' : MS} {w w' : World}
theorem TwoM.below (h:TwoM B T1 T2 s1 s2 w) (hb:Below w.heap.size w w'):TwoM B T1 T2 s1 s2 w':=⟨h.m.below hb,h.n.below hb,h.two⟩
theorem TwoM.swap (h:TwoM B T1 T2 s1 s2 w):TwoM B T2 T1 s2 s1 w:=⟨h.n,h.m,fun k h1 h2=>h.two k h2 h1⟩
theorem TwoM.step (h:TwoM B T1 T2 s1 s2 w) (hm:MAt B T1 s' w') (f:FrM (s1.own T1) (s'.own T1) w w'):TwoM B T1 T2 s' s2 w' :=
 ⟨hm,h.n.keep f.size fun k hk h0=>f.block k hk fun h1=>h.two k h1 h0,fun k h1 h2=>h.two k ((f.own k (h.n.low h2).2).1 h1) h2⟩
theorem TwoM.set (h:TwoM B T1 T2 s1 s2 w) {S:Nat} (g:w.grownBy w' (some S)) (hS:S<B):TwoM B T1 T2 s1 s2 w' :=
 ⟨h.m.keep g.size fun k hk h0=>g.block k hk fun e=>by cases e;have:=(h.m.low h0).1;omega,h.n.keep g.size fun k hk h0=>g.block k hk fun e=>by cases e;have:=(h.n.low h0).1;omega,h.two⟩
theorem TwoM.of (h:MAt B T1 s1 w) (hB:B≤w.heap.size) (h2:MAt w.heap.size T2 s2 w') (hb:Below w.heap.size w w'):TwoM B T1 T2 s1 s2 w' :=
 ⟨h.below hb,⟨h2.box,h2.cert,h2.sess,h2.two,h2.own,⟨Nat.le_trans hB h2.lo.1,Nat.le_trans hB h2.lo.2.1,Nat.le_trans hB h2.lo.2.2⟩,h2.back,h2.inv⟩,fun k h3 h4=>by have:=(h.low h3).2;have:=(h2.low h4).1;omega⟩
theorem apply_skip {T:Nat} {s:MS} (h:MAt B T s w) (hix:0≤s.ix∧s.ix≤4611686018427387904) {kind:Int} (hk:kind≠1) (a:Option Addr) (c:Nat) (bs:List Nat) (hd:BelowB w.heap.size w a c bs) (hda:∀ p,a=some p→bs≠[]→p.block≠T) :
  Calls Tryz.prog 25 #[.pointer (some ⟨T,0,none⟩),.agg #[.int .i64 (s.ix+1),.int .i64 0,.int .i64 kind,.slice a bs.length c]] w fun e w' =>
   e=.returned (.tuple #[.agg #[.int .i64 0,.int .i64 0,.int .i64 0,.int .i64 0,.bool false],.int .i64 0])∧∃ s':MS,MAt B T s' w'∧FrM (s.own T) (s'.own T) w w'∧s'.d=⟨s.d.c,s.d.t,s.ix+1⟩:=by
 have e:applyD s.d (s.ix+1) kind bs=(⟨s.d.c,s.d.t,s.ix+1⟩,aZero,0):=by
  unfold applyD
  rw [if_neg (fun h=>h rfl),if_pos hk]
 refine (apply_any h hix (s.ix+1) 0 kind a c bs hd hda).mono ?_
 rw [e]
 rintro e w' ⟨h1,s',h2,h3,h4,-,-⟩
 exact ⟨h1,s',h2,h4,h3⟩
end
theorem apply_any_ix (c:C.CL) (t:List SD) (i j:Int) (bs:List Nat):(applyD ⟨c,t,i⟩ (i+1) 1 bs).2=(applyD ⟨c,t,j⟩ (j+1) 1 bs).2∧(applyD ⟨c,t,i⟩ (i+1) 1 bs).1.c=(applyD ⟨c,t,j⟩ (j+1) 1 bs).1.c∧(applyD ⟨c,t,i⟩ (i+1) 1 bs).1.t=(applyD ⟨c,t,j⟩ (j+1) 1 bs).1.t:=by
 have e:∀ k:Int,applyD ⟨c,t,k⟩ (k+1) 1 bs=applyB ⟨c,t,k⟩ (k+1) bs:=fun k=>by
  unfold applyD
  rw [if_neg (fun h=>h rfl),if_neg (fun h=>h rfl)]
 rw [e,e]
 unfold applyB
 split
 ·exact ⟨rfl,rfl,rfl⟩
 ·unfold applyS
  simp only
  split
  ·exact ⟨rfl,rfl,rfl⟩
  ·split <;> exact ⟨rfl,rfl,rfl⟩

def asV (T:Nat) (opv:Value) (ix:Int) (r:AD×Int):Nat→Value
 | 0=>.pointer (some ⟨T,0,none⟩)
 | 1=>opv
 | 2=>.pointer (some ⟨T,0,none⟩)
 | 3=>.int .i64 ix
 | 5=>tupV r
 | 6=>tupV r
 | 7=>.agg (ansA r.1)
 | 8=>.int .i64 r.2
 | _=>.int .i64 r.2
structure AS (B T:Nat) (s:MS) (opv:Value) (bs:List Nat) (r:MD×AD×Int) (Y0:World) (s':MS) (L:Nat→Bool) (u:Nat→Value) (X:World):Prop where
 m:MAt B T s' X
 f:FrM (s.own T) (s'.own T) Y0 X
 v:∀ q,L q=true→q≠4→q≠9→q≠10→u q=asV T opv s.ix r.2 q
 c0:L 5=false→s'=s
 c1:L 5=true→s'.d=r.1
 e:L 4=true→L 5=false→∃ (a:Option Addr) (c:Nat),u 4=.agg #[.int .i64 (s.ix+1),.int .i64 0,.int .i64 1,.slice a bs.length c]∧BelowB X.heap.size X a c bs∧∀ p,a=some p→bs≠[]→p.block≠T
 b:L 9=true→∃ b,u 9=.pointer (some ⟨b,0,none⟩)∧Y0.heap.size≤b∧b<X.heap.size∧¬s'.own T b∧((L 10=false∧X.heap[b]? = some (.cells (ansA aZero) 70 (0,0)))∨(L 10=true∧X.heap[b]? = some (.cells (ansA r.2.1) 70 (0,0))))
section
variable {B T : Nat} {s s' : MS} {opv : Value} {bs : List Nat} {r : MD × AD × Int} {Y0 X X' : World} {L : Nat → Bool} {u : Nat → Value}
theorem AS.init {w:World} (h:MAt B T s w) (hb:Below w.heap.size w Y0):AS B T s opv bs r Y0 s (fun _=>false) (fun _=>undef) Y0 :=
 ⟨h.below hb,FrM.of_below _ (Below.refl _ _),(fun _ h=>nomatch h),fun _=>rfl,(fun h=>nomatch h),(fun h=>nomatch h),(fun h=>nomatch h)⟩
theorem keepV {L:Nat→Bool} {u:Nat→Value} {j:Nat} {v:Value} {val:Nat→Value} (h:∀ q,L q=true→q≠4→q≠9→q≠10→u q=val q) (hv:j≠4→j≠9→j≠10→v=val j):∀ q,setI L j q=true→q≠4→q≠9→q≠10→setU u j v q=val q:=by
 intro q hq h4 h9 h10
 by_cases e:q=j
 ·subst e;rw [setU_self];exact hv h4 h9 h10
 ·rw [setU_ne e];exact h q (by rwa [setI_ne e] at hq) h4 h9 h10
theorem AS.step (h:AS B T s opv bs r Y0 s' L u X) (j:Nat) {v:Value} (hb:Below X.heap.size X X') (hj:j≠4∧j≠5∧j≠9∧j≠10) (hv:v=asV T opv s.ix r.2 j):AS B T s opv bs r Y0 s' (setI L j) (setU u j v) X':=by
 refine ⟨h.m.below hb,h.f.trans (FrM.of_below _ hb),keepV h.v (fun _ _ _=>hv),?_,?_,?_,?_⟩
 ·rw [setI_ne hj.2.1.symm];exact h.c0
 ·rw [setI_ne hj.2.1.symm];exact h.c1
 ·rw [setI_ne hj.2.1.symm,setI_ne hj.1.symm,setU_ne hj.1.symm]
  intro a1 a2
  obtain ⟨a,c,h1,h2,h3⟩:=h.e a1 a2
  exact ⟨a,c,h1,belowB_frm h2 (FrM.of_below (fun _=>False) hb) (fun _ _ h=>h),h3⟩
 ·rw [setI_ne hj.2.2.1.symm,setU_ne hj.2.2.1.symm,setI_ne hj.2.2.2.symm]
  intro hl
  obtain ⟨b,e1,e2,e3,e4,e5⟩:=h.b hl
  exact ⟨b,e1,e2,Nat.lt_of_lt_of_le e3 hb.size,e4,e5.imp (fun k=>⟨k.1,(hb.block b e3).trans k.2⟩) fun k=>⟨k.1,(hb.block b e3).trans k.2⟩⟩
theorem AS.entry (h:AS B T s opv bs r Y0 s' L u X) (hb:Below X.heap.size X X') {a:Option Addr} {c:Nat} (h5:L 5=false) (hd:BelowB X'.heap.size X' a c bs) (hda:∀ p,a=some p→bs≠[]→p.block≠T):AS B T s opv bs r Y0 s' (setI L 4) (setU u 4 (.agg #[.int .i64 (s.ix+1),.int .i64 0,.int .i64 1,.slice a bs.length c])) X':=by
 refine ⟨h.m.below hb,h.f.trans (FrM.of_below _ hb),keepV h.v (fun h _ _=>absurd rfl h),?_,?_,?_,?_⟩
 ·rw [setI_ne (by omega)];exact h.c0
 ·rw [setI_ne (by omega)];exact h.c1
 ·intro _ _;rw [setU_self];exact ⟨a,c,rfl,hd,hda⟩
 ·rw [setI_ne (by omega),setU_ne (by omega),setI_ne (by omega)]
  intro hl
  obtain ⟨b,e1,e2,e3,e4,e5⟩:=h.b hl
  exact ⟨b,e1,e2,Nat.lt_of_lt_of_le e3 hb.size,e4,e5.imp (fun k=>⟨k.1,(hb.block b e3).trans k.2⟩) fun k=>⟨k.1,(hb.block b e3).trans k.2⟩⟩
theorem AS.apply (h:AS B T s opv bs r Y0 s' L u X) {s2:MS} (h10:L 10=false) (hm:MAt B T s2 X') (hf:FrM (s'.own T) (s2.own T) X X') (hr:s2.d=r.1):AS B T s opv bs r Y0 s2 (setI L 5) (setU u 5 (tupV r.2)) X':=by
 refine ⟨hm,h.f.trans hf,keepV h.v (fun _ _ _=>rfl),?_,?_,?_,?_⟩
 ·rw [setI_self];exact fun e=>nomatch e
 ·exact fun _=>hr
 ·rw [setI_self];exact fun _ e=>nomatch e
 ·rw [setI_ne (by omega),setU_ne (by omega),setI_ne (by omega),h10]
  intro hl
  obtain ⟨b,e1,e2,e3,e4,e5⟩:=h.b hl
  refine ⟨b,e1,e2,Nat.lt_of_lt_of_le e3 hf.size,fun h0=>e4 ((hf.own b e3).1 h0),.inl ⟨rfl,?_⟩⟩
  rcases e5 with ⟨_,k2⟩|⟨k1,_⟩
  ·exact (hf.block b e3 e4).trans k2
  ·rw [h10] at k1;cases k1
theorem AS.box (h:AS B T s opv bs r Y0 s' L u X) (h10:L 10=false):AS B T s opv bs r Y0 s' (setI L 9) (setU u 9 (.pointer (some ⟨X.heap.size,0,none⟩))) (X.alloc (.cells (ansA aZero) 70 (0,0))):=by
 have hb:Below X.heap.size X (X.alloc (.cells (ansA aZero) 70 (0,0))):=by exact below_auto
 refine ⟨h.m.below hb,h.f.trans (FrM.of_below _ hb),keepV h.v (fun _ h _=>absurd rfl h),?_,?_,?_,?_⟩
 ·rw [setI_ne (by omega)];exact h.c0
 ·rw [setI_ne (by omega)];exact h.c1
 ·rw [setI_ne (by omega),setI_ne (by omega),setU_ne (by omega)]
  intro a1 a2
  obtain ⟨a,c,h1,h2,h3⟩:=h.e a1 a2
  exact ⟨a,c,h1,belowB_frm h2 (FrM.of_below (fun _=>False) hb) (fun _ _ h=>h),h3⟩
 ·intro _
  rw [setU_self,setI_ne (by omega),h10]
  exact ⟨_,rfl,h.f.size,by simp,fun h0=>Nat.lt_irrefl _ (h.m.low h0).2,.inl ⟨rfl,heap_alloc_new X _⟩⟩
theorem AS.store (h:AS B T s opv bs r Y0 s' L u X) {b:Nat} (hu:u 9=.pointer (some ⟨b,0,none⟩)) (h9:L 9=true) (h5:L 5=true) {v:Value} (hX:X'.heap[b]? = some (.cells (ansA r.2.1) 70 (0,0))) (hg:X.grownBy X' (some b)):AS B T s opv bs r Y0 s' (setI L 10) (setU u 10 v) X':=by
 obtain ⟨b',e1,e2,e3,e4,e5⟩:=h.b h9
 rw [hu] at e1
 obtain rfl:b=b':=by cases e1;rfl
 refine ⟨h.m.keep hg.size fun k hk h0=>hg.block k hk fun e=>by cases e;exact e4 h0,⟨hg.os.trans h.f.os,hg.tape.trans h.f.tape,hg.output.trans h.f.output,Nat.le_trans h.f.size hg.size,fun k hk h0=>(hg.block k (Nat.lt_of_lt_of_le hk h.f.size) fun e=>by cases e;omega).trans (h.f.block k hk h0),h.f.own⟩,keepV h.v (fun _ _ h=>absurd rfl h),?_,?_,?_,?_⟩
 ·rw [setI_ne (by omega)];exact h.c0
 ·rw [setI_ne (by omega)];exact h.c1
 ·rw [setI_ne (by omega),setI_ne (by omega),h5];exact fun _ e=>nomatch e
 ·rw [setI_self,setI_ne (by omega),setU_ne (by omega)]
  exact fun _=>⟨b,hu,e2,Nat.lt_of_lt_of_le e3 hg.size,e4,.inr ⟨rfl,hX⟩⟩
end
open Go.Proofs.YtdeeoddacnealaaGreat.C (CL newC row_kept snapV)
open Go.Proofs.YtdeeoddacnealaaGreat.P (BelowB docB)

structure IntsAt (w:World) (a:Option Addr) (xs:List Int):Prop where
 row:xs=[]∨∃ b o,a=some ⟨b,o,none⟩∧b<w.heap.size∧∀ i,i<xs.length→w.cell? ⟨b,o+i,none⟩=some (.int .i64 (xs[i]?.getD 0))
theorem IntsAt.get {w w':World} {a:Option Addr} {xs:List Int} (h:IntsAt w a xs) (hb:Below w.heap.size w w') {k:Nat} (hk:k<xs.length):∃ b o,a=some ⟨b,o,none⟩∧b<w'.heap.size∧w'.cell? ⟨b,o+k,none⟩=some (.int .i64 (xs[k]?.getD 0)):=by
 rcases h.row with h1|⟨b,o,h1,h2,h3⟩
 ·rw [h1] at hk;exact absurd hk (Nat.not_lt_zero _)
 ·exact ⟨b,o,h1,Nat.lt_of_lt_of_le h2 hb.size,(hb.cell (p:=⟨b,_,none⟩) h2).trans (h3 k hk)⟩
structure BsV where
 a:Option Addr
 c:Nat
 bs:List Nat
def noBs:BsV:=⟨none,0,[]⟩
structure DsAt (w:World) (a:Option Addr) (ds:List BsV):Prop where
 row:ds=[]∨∃ b o,a=some ⟨b,o,none⟩∧b<w.heap.size∧∀ i,i<ds.length→w.cell? ⟨b,o+i,none⟩=some (.slice (ds[i]?.getD noBs).a (ds[i]?.getD noBs).bs.length (ds[i]?.getD noBs).c)
 dat:∀ i,i<ds.length→BelowB w.heap.size w (ds[i]?.getD noBs).a (ds[i]?.getD noBs).c (ds[i]?.getD noBs).bs
theorem DsAt.get {w w':World} {a:Option Addr} {ds:List BsV} (h:DsAt w a ds) (hb:Below w.heap.size w w') {k:Nat} (hk:k<ds.length):∃ b o,a=some ⟨b,o,none⟩∧b<w'.heap.size∧w'.cell? ⟨b,o+k,none⟩=some (.slice (ds[k]?.getD noBs).a (ds[k]?.getD noBs).bs.length (ds[k]?.getD noBs).c):=by
 rcases h.row with h1|⟨b,o,h1,h2,h3⟩
 ·rw [h1] at hk;exact absurd hk (Nat.not_lt_zero _)
 ·exact ⟨b,o,h1,Nat.lt_of_lt_of_le h2 hb.size,(hb.cell (p:=⟨b,_,none⟩) h2).trans (h3 k hk)⟩
theorem wrap_in {n:Int} (h:-9223372036854775808≤n∧n≤9223372036854775807):wrap64 n=n:=IntWalk.wrap64_in n h
theorem low_of {w W:World} {a:Option Addr} {c:Nat} {bs:List Nat} (h:BelowB w.heap.size w a c bs) (hb:Below w.heap.size w W):BelowB W.heap.size W a c bs∧∀ p,a=some p→bs≠[]→p.block<w.heap.size:=by
 have h1:=belowB_below h (Nat.le_refl _) hb
 refine ⟨⟨?_,h1.lt,h1.cap⟩,fun p hp h0=>?_⟩
 ·rcases h1.row with h2|⟨b,o,h2,h3,h4⟩
  ·exact .inl h2
  ·exact .inr ⟨b,o,h2,Nat.lt_of_lt_of_le h3 hb.size,h4⟩
 ·rcases h1.row with h2|⟨b,o,h2,h3,_⟩
  ·exact absurd h2 h0
  ·rw [hp] at h2;cases h2;exact h3
theorem kS0 {P:Prop} (h:P:=by
 intro L u X hdep hlat hLi hx
 obtain ⟨s',hx⟩:=hx
 have HXX:=hid hx
 generalize hR:(fun v w'=>∃ s'',AS _ _ _ _ _ _ _ s'' (setI L _) (setU u _ (gotI _ v)) w')=RR
 have HR:=hid hR
 clear hR hx hdep hlat
 simp only [putsFrom,Act.put,qA,qB,qC,Nat.zero_add,Nat.reduceAdd]
 go_wp2_with fail
 have hR:=HR.out
 subst hR
 exact ⟨rfl,s',HXX.out.step 0 (Below.refl _ _) (by decide) rfl⟩  ):P:=h
theorem kS1 {P:Prop} (h:P:=by
 intro L u X hdep hlat hLi hx
 obtain ⟨s',hx⟩:=hx
 have bx:=(hx.f.block S (Array.getElem?_eq_some_iff.1 HQY.out).1 HNS.out).trans HQY.out
 obtain ⟨⟨c0,c1,c2,c3,c4⟩,⟨c5,c6,c7,c8,c9⟩,cl⟩:=box10 bx
 clear bx
 have HXX:=hid hx
 generalize hR:(fun v w'=>∃ s'',AS _ _ _ _ _ _ _ s'' (setI L _) (setU u _ (gotI _ v)) w')=RR
 have HR:=hid hR
 clear hR hx hdep hlat
 simp only [putsFrom,Act.put,qA,qB,qC,Nat.zero_add,Nat.reduceAdd]
 go_wp2_with fail
 have hR:=HR.out
 subst hR
 exact ⟨rfl,s',HXX.out.step 1 (Below.refl _ _) (by decide) HOP.out.symm⟩  ):P:=h
theorem kS2 {P:Prop} (h:P:=by
 intro L u X hdep hlat hLi hx
 obtain ⟨s',hx⟩:=hx
 have HXX:=hid hx
 generalize hR:(fun v w'=>∃ s'',AS _ _ _ _ _ _ _ s'' (setI L _) (setU u _ (gotI _ v)) w')=RR
 have HR:=hid hR
 clear hR hx hdep hlat
 simp only [putsFrom,Act.put,qA,qB,qC,Nat.zero_add,Nat.reduceAdd]
 go_wp2_with fail
 have hR:=HR.out
 subst hR
 exact ⟨rfl,s',HXX.out.step 2 (Below.refl _ _) (by decide) rfl⟩  ):P:=h
theorem kS3 {P:Prop} (h:P:=by
 intro L u X hdep hlat hLi hx
 obtain ⟨s',hx⟩:=hx
 have e2:u 2=Value.pointer (some ⟨T,0,none⟩):=hx.v 2 (hdep 2 (by decide +kernel)) (by decide) (by decide) (by decide)
 have hss:=hx.c0 (hlat 5 (by decide +kernel))
 have HC:=hid (hss ▸ mIndex_any hx.m)
 have HXX:=hid hx
 generalize hR:(fun v w'=>∃ s'',AS _ _ _ _ _ _ _ s'' (setI L _) (setU u _ (gotI _ v)) w')=RR
 have HR:=hid hR
 clear hR hx hdep hlat
 simp only [putsFrom,Act.put,qA,qB,qC,Nat.zero_add,Nat.reduceAdd]
 simp only [e2]
 clear e2
 go_wp2_with (go_at_call 27;with_reducible refine mQ (HC.out) ?_;intro w9 hb9 hc9 hf9 hz9;intros)
 have hR:=HR.out
 subst hR
 exact ⟨rfl,s',HXX.out.step 3 hb9 (by decide) rfl⟩  ):P:=h
theorem kS4 {P:Prop} (h:P:=by
 intro L u X hdep hlat hLi hx
 obtain ⟨s',hx⟩:=hx
 have e1:u 1=opv:=hx.v 1 (hdep 1 (by decide +kernel)) (by decide) (by decide) (by decide)
 have e3:u 3=Value.int .i64 s.ix:=hx.v 3 (hdep 3 (by decide +kernel)) (by decide) (by decide) (by decide)
 rw [HOP.out] at e1
 have h5:L 5=false:=hlat 5 (by decide +kernel)
 have hbX:=HBY.out.trans ((HMY.out.fr_below hx.f).mono HB1.out.size)
 have HEN:=hid (entry_at ⟨x,false,kind,da,dc,dl,0⟩ s.ix 0 1 bs (HAW.out X hbX) hbX.size (by omega) HIB.out (fun e=>nomatch e) fun _=>⟨rfl,HBS.out⟩)
 rw [←HNL.out] at HEN
 have HTT:=hid (And.intro (Nat.le_trans HB1.out.size HMY.out.lo.1) (Nat.lt_of_lt_of_le hTY hx.f.size))
 clear hbX
 have HXX:=hid hx
 generalize hR:(fun v w'=>∃ s'',AS _ _ _ _ _ _ _ s'' (setI L _) (setU u _ (gotI _ v)) w')=RR
 have HR:=hid hR
 clear hR hx hdep hlat
 simp only [putsFrom,Act.put,qA,qB,qC,Nat.zero_add,Nat.reduceAdd]
 simp only [e1,e3]
 clear e1
 clear e3
 go_wp2_with (go_at_call 26;(with_reducible refine HEN.out.mono ?_);rw [show wrap64 (s.ix+1+0)=s.ix+1 from by rw [Int.add_zero];exact wrap_in (by have:=HIB.out;omega)];rintro e w9 ⟨ea,ec,rfl,h1,h2,h3⟩;have HH1:=hid h1;have HH2:=hid h2;clear h1 h2;refine mB h3 ?_;intro hc9 hf9 hz9;intros)
 have hR:=HR.out
 subst hR
 exact ⟨rfl,s',HXX.out.entry h3 h5 HH1.out fun p hp h0 e=>by have:=HTT.out;rcases HH2.out p hp h0 with h|h <;> omega⟩  ):P:=h
theorem kS5 {P:Prop} (h:P:=by
 intro L u X hdep hlat hLi hx
 obtain ⟨s',hx⟩:=hx
 have e0:u 0=Value.pointer (some ⟨T,0,none⟩):=hx.v 0 (hdep 0 (by decide +kernel)) (by decide) (by decide) (by decide)
 have h5:L 5=false:=hLi
 have h10:L 10=false:=hlat 10 (by decide +kernel)
 obtain rfl:s'=s:=hx.c0 h5
 obtain ⟨ea,ec,e4,g2,g3⟩:=hx.e (hdep 4 (by decide +kernel)) h5
 have HAP:=hid (apply_any hx.m HIB.out (s'.ix+1) 0 1 ea ec bs g2 g3)
 rw [←HRR.out] at HAP
 clear g2 g3
 have HXX:=hid hx
 generalize hR:(fun v w'=>∃ s'',AS _ _ _ _ _ _ _ s'' (setI L _) (setU u _ (gotI _ v)) w')=RR
 have HR:=hid hR
 clear hR hx hdep hlat
 simp only [putsFrom,Act.put,qA,qB,qC,Nat.zero_add,Nat.reduceAdd]
 simp only [e0,e4]
 clear e0
 clear e4
 go_wp2_with (go_at_call 25;(with_reducible refine HAP.out.mono ?_);rintro e w9 ⟨rfl,s2,hm2,hd2,hf2,-,-⟩;have HM9:=hid hm2;have HD9:=hid hd2;have HF9:=hid hf2;clear hm2 hd2 hf2)
 have hR:=HR.out
 subst hR
 exact ⟨rfl,_,HXX.out.apply h10 HM9.out HF9.out HD9.out⟩  ):P:=h
theorem kS6 {P:Prop} (h:P:=by
 intro L u X hdep hlat hLi hx
 obtain ⟨s',hx⟩:=hx
 have e5:u 5=Value.tuple #[.agg #[.int .i64 r.2.1.s0,.int .i64 r.2.1.s1,.int .i64 r.2.1.code,.int .i64 r.2.1.num,.bool r.2.1.fresh],.int .i64 r.2.2]:=hx.v 5 (hdep 5 (by decide +kernel)) (by decide) (by decide) (by decide)
 have HXX:=hid hx
 generalize hR:(fun v w'=>∃ s'',AS _ _ _ _ _ _ _ s'' (setI L _) (setU u _ (gotI _ v)) w')=RR
 have HR:=hid hR
 clear hR hx hdep hlat
 simp only [putsFrom,Act.put,qA,qB,qC,Nat.zero_add,Nat.reduceAdd]
 simp only [e5]
 clear e5
 go_wp2_with fail
 have hR:=HR.out
 subst hR
 exact ⟨rfl,s',HXX.out.step 6 (Below.refl _ _) (by decide) rfl⟩  ):P:=h
theorem kS7 {P:Prop} (h:P:=by
 intro L u X hdep hlat hLi hx
 obtain ⟨s',hx⟩:=hx
 have e6:u 6=Value.tuple #[.agg #[.int .i64 r.2.1.s0,.int .i64 r.2.1.s1,.int .i64 r.2.1.code,.int .i64 r.2.1.num,.bool r.2.1.fresh],.int .i64 r.2.2]:=hx.v 6 (hdep 6 (by decide +kernel)) (by decide) (by decide) (by decide)
 have HXX:=hid hx
 generalize hR:(fun v w'=>∃ s'',AS _ _ _ _ _ _ _ s'' (setI L _) (setU u _ (gotI _ v)) w')=RR
 have HR:=hid hR
 clear hR hx hdep hlat
 simp only [putsFrom,Act.put,qA,qB,qC,Nat.zero_add,Nat.reduceAdd]
 simp only [e6]
 clear e6
 go_wp2_with fail
 have hR:=HR.out
 subst hR
 exact ⟨rfl,s',HXX.out.step 7 (Below.refl _ _) (by decide) rfl⟩  ):P:=h
theorem kS8 {P:Prop} (h:P:=by
 intro L u X hdep hlat hLi hx
 obtain ⟨s',hx⟩:=hx
 have e6:u 6=Value.tuple #[.agg #[.int .i64 r.2.1.s0,.int .i64 r.2.1.s1,.int .i64 r.2.1.code,.int .i64 r.2.1.num,.bool r.2.1.fresh],.int .i64 r.2.2]:=hx.v 6 (hdep 6 (by decide +kernel)) (by decide) (by decide) (by decide)
 have HXX:=hid hx
 generalize hR:(fun v w'=>∃ s'',AS _ _ _ _ _ _ _ s'' (setI L _) (setU u _ (gotI _ v)) w')=RR
 have HR:=hid hR
 clear hR hx hdep hlat
 simp only [putsFrom,Act.put,qA,qB,qC,Nat.zero_add,Nat.reduceAdd]
 simp only [e6]
 clear e6
 go_wp2_with fail
 have hR:=HR.out
 subst hR
 exact ⟨rfl,s',HXX.out.step 8 (Below.refl _ _) (by decide) rfl⟩  ):P:=h
theorem kS9 {P:Prop} (h:P:=by
 intro L u X hdep hlat hLi hx
 obtain ⟨s',hx⟩:=hx
 have h10:L 10=false:=hlat 10 (by decide +kernel)
 have HXX:=hid hx
 generalize hR:(fun v w'=>∃ s'',AS _ _ _ _ _ _ _ s'' (setI L _) (setU u _ (gotI _ v)) w')=RR
 have HR:=hid hR
 clear hR hx hdep hlat
 simp only [putsFrom,Act.put,qA,qB,qC,Nat.zero_add,Nat.reduceAdd]
 go_wp2_with fail
 have hR:=HR.out
 subst hR
 exact ⟨rfl,s',HXX.out.box h10⟩  ):P:=h
theorem kS10 {P:Prop} (h:P:=by
 intro L u X hdep hlat hLi hx
 obtain ⟨s',hx⟩:=hx
 have e7:u 7=Value.agg #[.int .i64 r.2.1.s0,.int .i64 r.2.1.s1,.int .i64 r.2.1.code,.int .i64 r.2.1.num,.bool r.2.1.fresh]:=hx.v 7 (hdep 7 (by decide +kernel)) (by decide) (by decide) (by decide)
 have h9:=hdep 9 (by decide +kernel)
 have h5:=hdep 5 (by decide +kernel)
 have h10:L 10=false:=hLi
 obtain ⟨b,e9,hb1,hb2,hb3,hb4⟩:=hx.b h9
 have HE9:=hid e9
 have hbz:X.heap[b]? = some (.cells (ansA aZero) 70 (0,0)):=by
  rcases hb4 with ⟨_,h⟩|⟨h,_⟩
  ·exact h
  ·rw [h10] at h;cases h
 unfold ansA aZero at hbz
 have HST:=hid (set5f hbz (.int .i64 r.2.1.s0) (.int .i64 r.2.1.s1) (.int .i64 r.2.1.code) (.int .i64 r.2.1.num) (.bool r.2.1.fresh))
 obtain ⟨⟨y0,y1,y2,y3,y4⟩,⟨f0,f1,f2,f3,f4⟩,yl⟩:=box5 hbz
 clear hb4 hbz
 have HXX:=hid hx
 generalize hR:(fun v w'=>∃ s'',AS _ _ _ _ _ _ _ s'' (setI L _) (setU u _ (gotI _ v)) w')=RR
 have HR:=hid hR
 clear hR hx hdep hlat
 simp only [putsFrom,Act.put,qA,qB,qC,Nat.zero_add,Nat.reduceAdd]
 simp only [e7,e9]
 clear e7
 clear e9
 go_wp2_with fail
 have hR:=HR.out
 subst hR
 exact ⟨rfl,s',HXX.out.store HE9.out h9 h5 HST.out.1 HST.out.2⟩  ):P:=h
theorem kS11 {P:Prop} (h:P:=by
 intro L u X hdep hlat hLi hx
 obtain ⟨s',hx⟩:=hx
 have e8:u 8=Value.int .i64 r.2.2:=hx.v 8 (hdep 8 (by decide +kernel)) (by decide) (by decide) (by decide)
 have HXX:=hid hx
 generalize hR:(fun v w'=>∃ s'',AS _ _ _ _ _ _ _ s'' (setI L _) (setU u _ (gotI _ v)) w')=RR
 have HR:=hid hR
 clear hR hx hdep hlat
 simp only [putsFrom,Act.put,qA,qB,qC,Nat.zero_add,Nat.reduceAdd]
 simp only [e8]
 clear e8
 go_wp2_with fail
 have hR:=HR.out
 subst hR
 exact ⟨rfl,s',HXX.out.step 11 (Below.refl _ _) (by decide) rfl⟩  ):P:=h

set_option maxHeartbeats 8000000 in
set_option maxRecDepth 100000 in
theorem machineSkips_walk (a0:Option Addr) (c0:Nat) (ks:List Int) (a1:Option Addr) (c1:Nat) (ds:List BsV) (op:OpV) (w:World) (hk:IntsAt w a0 ks) (hkl:ks.length≤1048576) (hd:DsAt w a1 ds) (hdl:ds.length≤1048576) (ho:op.At w.heap.size w) :
  Calls Tryz.prog 7 #[.slice a0 ks.length c0,.slice a1 ds.length c1,.agg #[.int .i64 op.x.s0,.int .i64 op.x.s1,.int .i64 op.x.s2,.slice op.x.ra op.x.rs.length op.x.rc,.slice op.x.sa op.x.ss.length op.x.sc,.slice op.x.wa op.x.ws.length op.x.wc,.bool op.raw,.int .i64 op.kind,.slice op.a op.bs.length op.c,.int .i64 op.gap]] w (Ret (.bool true) w):=by
 obtain ⟨x,raw,kind,da,dc,dl,gap⟩:=op
 simp only
 have HK:=hid hk;have HD:=hid hd;have HO:=hid ho
 obtain ⟨n,hn⟩:∃ n,n=ks.length:=⟨_,rfl⟩
 obtain ⟨m,hm⟩:∃ n,n=ds.length:=⟨_,rfl⟩
 obtain ⟨nl,hnl⟩:∃ n,n=dl.length:=⟨_,rfl⟩
 have HN:=hid hn;have HM:=hid hm;have HNL:=hid hnl
 rw [←hn] at hkl ⊢
 rw [←hm] at hdl ⊢
 rw [←hnl]
 clear hk hd ho hn hm hnl
 go_enter Tryz.func7,Tryz.ntmps7
 go_upto_region 1 with fail
 generalize hW1:World.alloc w _=w1
 have hb1:Below w.heap.size w w1:=by rw [←hW1];exact below_auto
 have q1:w1.heap[w.heap.size]? = some (.cells #[.int .i64 x.s0,.int .i64 x.s1,.int .i64 x.s2,.slice x.ra x.rs.length x.rc,.slice x.sa x.ss.length x.sc,.slice x.wa x.ws.length x.wc,.bool raw,.int .i64 kind,.slice da nl dc,.int .i64 gap] 68 (0,0)):=by rw [←hW1];exact heap_alloc_new w _
 obtain ⟨S,hS⟩:∃ S,S=w.heap.size:=⟨_,rfl⟩
 rw [←hS] at q1 ⊢
 have HS:=hid hS
 have HB1:=hid hb1;have HQ1:=hid q1
 have hS1:S<w1.heap.size:=(Array.getElem?_eq_some_iff.1 q1).1
 clear hW1 hb1 q1 hS
 go_wp2_with fail
 refine (mNew_any 3 3 w1 (by omega)).mono ?_
 rintro e w2 ⟨T1,s1,rfl,hM1,hb2,hd1,-,-⟩
 go_wp2_with fail
 refine (mNew_any 3 3 w2 (by omega)).mono ?_
 rintro e w3 ⟨T2,s2,rfl,hM2,hb3,hd2,-,-⟩
 have H2:=hid (TwoM.of hM1 hb2.size hM2 hb3)
 have HB3:=hid (hb2.trans (hb3.mono hb2.size))
 have HD1:=hid hd1;have HD2:=hid hd2
 clear hM1 hM2 hb2 hb3 hd1 hd2
 go_wp2_with fail
 refine (alive14_any w3).mono ?_
 rintro e w4 ⟨rfl,hb4⟩
 have H24:=hid (H2.out.below hb4)
 have HB4:=hid (HB3.out.trans (hb4.mono HB3.out.size))
 clear H2 HB3 hb4
 go_upto_region 5 with fail
 have H24':=hid H24.out;have HB4':=HB4.out
 clear H24 HB4
 have HT:=hid (And.intro H24'.out.m.lo.1 H24'.out.n.lo.1)
 go_loopw [34] (fun t34 wr=>∃ (k:Nat) (s:MS),t34=.int .i64 (k:Nat)∧k≤n∧Hid (TwoM w1.heap.size T1 T2 s s2 wr)∧Hid (s.d=⟨s1.d.c,s1.d.t,(k:Nat)⟩)∧Below w1.heap.size w1 wr) (fun t34 _=>n-(intOf t34).toNat)
 case atStart=>exact ⟨0,s1,rfl,Nat.zero_le _,H24',hid (by rw [HD1.out];rfl),HB4'⟩
 case round =>
  obtain ⟨k,s,rfl,hk,H2,HSD,hbw⟩:=hrel
  clear H24' HB4'
  have hb0w:Below w.heap.size w wr:=HB1.out.trans (hbw.mono HB1.out.size)
  have HIX:=hid (show s.ix=(k:Int) from congrArg MD.ix HSD.out)
  have HI:=hid (mIndex_any H2.out.m)
  rw [HIX.out] at HI
  by_cases hlt:k<n
  ·have hlt':(k:Int)<(n:Int):=by omega
   obtain ⟨gb,go,rfl,hgb,hcs⟩:=HK.out.get hb0w (k:=k) (by rw [←HN.out];exact hlt)
   generalize ks[k]?.getD 0=kd at hcs
   rcases (show kd=1∨kd≠1 by omega) with hk1|hk1
   rw [hk1] at hcs
   clear hk1
   go_upto_region 9 with fail
   obtain ⟨kd,hkd⟩:∃ kd:Int,kd=2:=⟨_,rfl⟩
   have HKD:=hid (show kd≠1 from by omega)
   rw [←hkd]
   clear hkd
   rotate_left
   have hkb:(kd == 1)=false:=by simpa using hk1
   have HKD:=hid hk1
   clear hk1
   go_upto_region 9 with fail
   clear hkb
   rotate_left
   all_goals
    clear hcs hgb
    go_upto_region 10 with (go_at_call 27;with_reducible refine mQ (HI.out) ?_;intro w5 hb5 hc5 hf5 hz5;intros)
    generalize hW9:World.alloc _ _=w9
    have hb9:Below wr.heap.size wr w9:=by rw [←hW9];exact below_auto
    have q9:w9.heap[w5.heap.size]? = some (.cells #[.int .i64 ((k:Int)+1),.int .i64 0,.int .i64 kd,.slice none 0 0] 74 (0,0)):=by rw [←hW9];exact heap_alloc_new w5 _
    obtain ⟨E,hE⟩:∃ E,E=w5.heap.size:=⟨_,rfl⟩
    rw [←hE] at q9 ⊢
    have HE:=hid (show wr.heap.size≤E from by rw [hE];exact hb5.size)
    clear hW9 hE hc5 hf5 hz5 hb5
    have H29:=hid (H2.out.below hb9)
    have hb09:=hb0w.trans (hb9.mono hb0w.size)
    have HIXB:=hid (show 0≤s.ix∧s.ix≤4611686018427387904 from by have:=HIX.out;omega)
    have el:=(Array.getElem?_eq_some_iff.1 q9).1
    have HQ9:=hid q9
    have HB9:=hid hb9;have HB09:=hid hb09
    obtain ⟨y0,y1,y2,y3,yl⟩:=box4 q9
    obtain ⟨e0,e1,e2,e3⟩:=fz4 q9
    clear q9 hb9 hb09
    rcases (show k<m∨¬k<m by omega) with hd|hd
    have hd':(k:Int)<(m:Int):=by omega
    obtain ⟨g1,o1,rfl,hg1,hc1⟩:=HD.out.get HB09.out (k:=k) (by rw [←HM.out];exact hd)
    have hdat:=HD.out.dat k (by rw [←HM.out];exact hd)
    generalize ds[k]?.getD noBs=dv at hc1 hdat
    obtain ⟨da2,dc2,db2⟩:=dv
    simp only at hc1 hdat
    have HDAT:=hid hdat
    obtain ⟨nb,hnb⟩:∃ n,n=db2.length:=⟨_,rfl⟩
    have HNB:=hid hnb
    rw [←hnb] at hc1
    obtain ⟨r9,g9⟩:=K.set1 (i:=3) HQ9.out (.slice da2 nb dc2)
    have HR9:=hid (show (w9.setCell ⟨E,3,none⟩ (.slice da2 nb dc2)).heap[E]? = some (.cells #[.int .i64 ((k:Int)+1),.int .i64 0,.int .i64 kd,.slice da2 nb dc2] 74 (0,0)) from r9)
    clear hdat hnb r9 g9
    go_upto_region 12 with fail
    have HBX:=hid (show Below wr.heap.size wr (w9.setCell ⟨E,3,none⟩ (.slice da2 nb dc2)) from HB9.out.setCell HE.out _)
    clear hc1 hg1 hd hd' y0 y1 y2 y3 yl e0 e1 e2 e3 H29 HB9 HB09 HQ9 el
    generalize w9.setCell ⟨E,3,none⟩ (.slice da2 nb dc2)=wx at *
    rotate_left
    have hd':¬(k:Int)<(m:Int):=by omega
    have HDAT:=hid (show BelowB w.heap.size w none 0 [] from ⟨.inl rfl,(fun _ h=>nomatch h),Nat.zero_le _⟩)
    have HR9:=HQ9
    have HBX:=HB9
    go_upto_region 12 with fail
    clear hd hd' y0 y1 y2 y3 yl e0 e1 e2 e3 H29 HB9 HB09 HQ9 el
    generalize w9=wx at *
    rotate_left
    all_goals
     have hb0x:=hb0w.trans (HBX.out.mono hb0w.size)
     have H2X:=hid (H2.out.below HBX.out)
     have HA:=hid (apply_skip H2X.out.m HIXB.out HKD.out _ _ _ (low_of HDAT.out hb0x).1 fun p hp h0 e=>by have:=(low_of HDAT.out hb0x).2 p hp h0;have:=HT.out.1;have:=HB1.out.size;omega)
     rw [HIX.out] at HA
     try rw [←HNB.out] at HA
     obtain ⟨y0,y1,y2,y3,yl⟩:=box4 HR9.out
     clear hb0x
     go_wp2_with fail
     refine HA.out.mono ?_
     rintro e w11 ⟨rfl,s',hm',hf',hd'⟩
     have H2N:=hid (H2X.out.step hm' hf')
     have HBN:=hid ((hbw.trans (HBX.out.mono hbw.size)).trans (H2X.out.m.fr_below hf'))
     have HDN:=hid hd'
     clear hm' hf' hd' y0 y1 y2 y3 yl HA
     go_wp2_with fail
     go_roundw
     case rel=>exact ⟨k+1,s',by go_num,by omega,hid (H2N.out.below (by exact below_auto)),hid (by rw [HDN.out,HSD.out];rfl),HBN.out.trans (Below.mono (by exact below_auto) HBN.out.size)⟩
     case measure=>simp [intOf];omega
  ·obtain rfl:k=n:=by omega
   have hge:¬(k:Int)<(k:Int):=by omega
   have HE1:=hid (show bytesM s.d=bytesM s2.d from by unfold bytesM;rw [HSD.out,HD1.out,HD2.out])
   have HY1:=hid fun W (hb:Below wr.heap.size wr W)=>mBytes_any (H2.out.m.below hb)
   have HY2:=hid fun W (hb:Below wr.heap.size wr W)=>mBytes_any (H2.out.n.below hb)
   rw [HE1.out] at HY1
   have HLt:=hid (bytesM_lt s2.d)
   unfold MBRet' at HY1 HY2
   generalize bytesM s2.d=Lb at *
   obtain ⟨ln,hln⟩:∃ n,n=Lb.length:=⟨_,rfl⟩
   have HLN:=hid hln
   rw [←hln] at HY1 HY2
   clear hln HE1
   go_wp2_with (go_at_call 27;with_reducible refine mQ (HI.out) ?_;intro w5 hb5 hc5 hf5 hz5;intros)
   refine (HY1.out w5 hb5).mono ?_
   rintro e w6 ⟨a6,k6,rfl,ho6,hb6⟩
   have HO6:=hid ho6
   have HB6:=hid (hb5.trans (hb6.mono hb5.size))
   clear ho6 hb6 hc5 hf5 hz5 hb5
   go_wp2_with fail
   refine (HY2.out w6 HB6.out).mono ?_
   rintro e w7 ⟨a7,k7,rfl,ho7,hb7⟩
   have HSB:=hid (show Calls Tryz.prog 20 #[.slice a6 ln k6,.slice a7 ln k7] w7 (Ret (.bool true) w7) from by
    have ho6:=row_kept HO6.out fun g e=>hb7.block g (HO6.out.lt g e).2
    rw [HLN.out] at ho6 ho7 ⊢
    exact P.sameB_any a6 a7 k6 k7 _ _ Lb Lb true w7 rfl rfl (C.own_bat2 rfl ho6 HLt.out) (C.own_bat2 rfl ho7 HLt.out) (decide_eq_true rfl))
   have HB7:=hid (HB6.out.trans (hb7.mono HB6.out.size))
   clear ho7 hb7 HO6 HB6
   go_wp2_with fail
   refine HSB.out.mono ?_
   rintro e w8 ⟨rfl,hb8⟩
   have HB8:=hid (HB7.out.trans (hb8.mono HB7.out.size))
   have HQ8:=hid (((hbw.trans (HB8.out.mono hbw.size)).block S hS1).trans HQ1.out)
   have H28:=hid (H2.out.below HB8.out)
   have hbs8:=(hbw.trans (HB8.out.mono hbw.size))
   obtain ⟨⟨c0,c1,c2,c3,c4⟩,⟨c5,c6,c7,c8,c9⟩,cl⟩:=box10 HQ8.out
   have hf6:w8.frozen? ⟨S,6,none⟩=false:=by simp [World.frozen?,HQ8.out]
   have hf9:w8.frozen? ⟨S,9,none⟩=false:=by simp [World.frozen?,HQ8.out]
   obtain ⟨r6,g6⟩:=K.set1 (i:=6) HQ8.out (.bool false)
   obtain ⟨r9,g9⟩:=K.set1 (i:=9) r6 (.int .i64 0)
   have HQA:=hid (show ((w8.setCell ⟨S,6,none⟩ (.bool false)).setCell ⟨S,9,none⟩ (.int .i64 0)).heap[S]? = some (.cells #[.int .i64 x.s0,.int .i64 x.s1,.int .i64 x.s2,.slice x.ra x.rs.length x.rc,.slice x.sa x.ss.length x.sc,.slice x.wa x.ws.length x.wc,.bool false,.int .i64 kind,.slice da nl dc,.int .i64 0] 68 (0,0)) from r9)
   have hSw:=HS.out
   have H2A:=hid ((H28.out.set g6 hS1).set g9 hS1)
   have HBA:=hid (show Below w.heap.size w ((w8.setCell ⟨S,6,none⟩ (.bool false)).setCell ⟨S,9,none⟩ (.int .i64 0)) from ((HB1.out.trans (hbs8.mono HB1.out.size)).setCell (by show w.heap.size≤S;omega) _).setCell (by show w.heap.size≤S;omega) _)
   clear hSw hbs8 r6 g6 r9 g9 hb8 HB8 HB7 H28 HSB HY1 HY2 HLt HLN hbw hb0w
   go_upto_region 20 with fail
   generalize (w8.setCell ⟨S,6,none⟩ (.bool false)).setCell ⟨S,9,none⟩ (.int .i64 0)=wA at *
   have HAW:=hid fun W (hb:Below w.heap.size w W)=>(show (⟨x,false,kind,da,dc,dl,0⟩:OpV).At w.heap.size W from ⟨HO.out.x.below hb,HO.out.num,HO.out.len,belowB_below HO.out.dat (Nat.le_refl _) hb⟩)
   obtain ⟨opv,hopv⟩:∃ v,v=Value.agg #[.int .i64 x.s0,.int .i64 x.s1,.int .i64 x.s2,.slice x.ra x.rs.length x.rc,.slice x.sa x.ss.length x.sc,.slice x.wa x.ws.length x.wc,.bool false,.int .i64 kind,.slice da nl dc,.int .i64 0]:=⟨_,rfl⟩
   obtain ⟨bs,hbs⟩:∃ L,L=docB (snapV x 0):=⟨_,rfl⟩
   have HOP:=hid hopv;have HBS:=hid hbs
   have HIB:=hid (show 0≤s.ix∧s.ix≤4611686018427387904 from by have:=HIX.out;omega)
   have HNS:=hid (show ¬s.own T1 S from fun h0=>by have:=(H2A.out.m.low h0).1;omega)
   have HNS2:=hid (show ¬s2.own T2 S from fun h0=>by have:=(H2A.out.n.low h0).1;omega)
   have HIB2:=hid (show 0≤s2.ix∧s2.ix≤4611686018427387904 from by have:s2.ix=0:=congrArg MD.ix HD2.out;omega)
   clear hopv hbs HI HO HK HD
   obtain ⟨T,rfl⟩:∃ t,t=T1:=⟨_,rfl⟩
   obtain ⟨Y0,hY0⟩:∃ Y:World,Y = { wA with drawn:=wA.drawn+1 }:=⟨_,rfl⟩
   have hb0:Below wA.heap.size wA Y0:=by rw [hY0];exact Below.drew (Below.refl _ _)
   have H2Y:=hid (H2A.out.below hb0)
   have HMY:=hid H2Y.out.m
   have hTY:T<Y0.heap.size:=HMY.out.lt
   have HBY:=hid (HBA.out.trans (hb0.mono HBA.out.size))
   have HQY:=hid ((hb0.block _ (Array.getElem?_eq_some_iff.1 HQA.out).1).trans HQA.out)
   have HY0:=hid hY0;have HB0Y:=hid hb0
   clear hY0 hb0
   obtain ⟨r,hr⟩:∃ r,r=applyD s.d (s.ix+1) 1 bs:=⟨_,rfl⟩
   have HRR:=hid hr
   clear hr
   refine wp_region_inv (fun L u X=>∃ s',AS w1.heap.size T s opv bs r Y0 s' L u X) (fun _ _=>False) rfl (by kernel_rfl) (by kernel_rfl) ⟨s,by rw [←HY0.out];exact AS.init HMY.out (Below.refl _ _)⟩ ?_ ?_ ?_
   ·simp only [StepsI,List.nil_append,List.cons_append,Nat.zero_add,Nat.reduceAdd]
    exact ⟨kS0,kS1,kS2,kS3,kS4,kS5,kS6,kS7,kS8,kS9,kS10,kS11,trivial⟩
   ·intro L u X hall hx
    obtain ⟨s',hx⟩:=hx
    have hd':=hx.c1 (hall 5 (by decide))
    have e11:u 11=Value.int .i64 r.2.2:=hx.v 11 (hall 11 (by decide)) (by decide) (by decide) (by decide)
    obtain ⟨b,e9,hb1,hb2,hb3,hb4⟩:=hx.b (hall 9 (by decide))
    rcases hb4 with ⟨h,_⟩|⟨_,hbz⟩
    ·rw [hall 10 (by decide)] at h;cases h
    have H2X:=hid (H2Y.out.step hx.m hx.f)
    have HBX:=hid (HBY.out.trans ((HMY.out.fr_below hx.f).mono HB1.out.size))
    have HFX:=hid hx.f
    have HDX:=hid hd'
    have HBZ:=hid hbz
    have HNB:=hid hb3;have HLB:=hid hb1
    clear hall hx hd' hb1 hb2 hb3 hbz
    simp only [putsFrom,Act.put,qA,qB,qC,Nat.zero_add,Nat.reduceAdd]
    simp only [e9,e11]
    clear e9 e11
    have HNB2:=hid (show ¬s2.own T2 b from fun h0=>by have:=(H2Y.out.n.low h0).2;have:=HLB.out;omega)
    have HQA:=hid ((HFX.out.block S (Array.getElem?_eq_some_iff.1 HQY.out).1 HNS.out).trans HQY.out)
    have H2A:=hid H2X.out.swap
    have HBA:=HBX
    obtain ⟨T1,rfl⟩:∃ t,t=T:=⟨_,rfl⟩
    obtain ⟨T,rfl⟩:∃ t,t=T2:=⟨_,rfl⟩
    obtain ⟨r1,rfl⟩:∃ t,t=r:=⟨_,rfl⟩
    obtain ⟨t1,rfl⟩:∃ t,t=s':=⟨_,rfl⟩
    obtain ⟨sA,rfl⟩:∃ t,t=s:=⟨_,rfl⟩
    obtain ⟨s,rfl⟩:∃ t,t=s2:=⟨_,rfl⟩
    obtain ⟨b1,rfl⟩:∃ t,t=b:=⟨_,rfl⟩
    obtain ⟨wA,rfl⟩:∃ t,t=X:=⟨_,rfl⟩
    have HR1:=HRR;have HIB:=HIB2;have HNS:=HNS2;have HD1':=HDX;have HBZ1:=HBZ
    clear HRR HIB2 HNS2 HDX HBZ HBX H2X HFX HLB HNB HQY HBY H2Y HMY hTY
    go_upto_region 21 with fail
    obtain ⟨Y0,hY0⟩:∃ Y:World,Y = { wA with drawn:=wA.drawn+1 }:=⟨_,rfl⟩
    have hb0:Below wA.heap.size wA Y0:=by rw [hY0];exact Below.drew (Below.refl _ _)
    have H2Y:=hid (H2A.out.below hb0)
    have HMY:=hid H2Y.out.m
    have hTY:T<Y0.heap.size:=HMY.out.lt
    have HBY:=hid (HBA.out.trans (hb0.mono HBA.out.size))
    have HQY:=hid ((hb0.block _ (Array.getElem?_eq_some_iff.1 HQA.out).1).trans HQA.out)
    have HY0:=hid hY0;have HB0Y:=hid hb0
    clear hY0 hb0
    obtain ⟨r,hr⟩:∃ r,r=applyD s.d (s.ix+1) 1 bs:=⟨_,rfl⟩
    have HRR:=hid hr
    clear hr
    refine wp_region_inv (fun L u X=>∃ s',AS w1.heap.size T s opv bs r Y0 s' L u X) (fun _ _=>False) rfl (by kernel_rfl) (by kernel_rfl) ⟨s,by rw [←HY0.out];exact AS.init HMY.out (Below.refl _ _)⟩ ?_ ?_ ?_
    ·simp only [StepsI,List.nil_append,List.cons_append,Nat.zero_add,Nat.reduceAdd]
     exact ⟨kS0,kS1,kS2,kS3,kS4,kS5,kS6,kS7,kS8,kS9,kS10,kS11,trivial⟩
    ·intro L u X hall hx
     obtain ⟨s',hx⟩:=hx
     have hd':=hx.c1 (hall 5 (by decide))
     have e11:u 11=Value.int .i64 r.2.2:=hx.v 11 (hall 11 (by decide)) (by decide) (by decide) (by decide)
     obtain ⟨b,e9,hb1,hb2,hb3,hb4⟩:=hx.b (hall 9 (by decide))
     rcases hb4 with ⟨h,_⟩|⟨_,hbz⟩
     ·rw [hall 10 (by decide)] at h;cases h
     have H2X:=hid (H2Y.out.step hx.m hx.f)
     have HBX:=hid (HBY.out.trans ((HMY.out.fr_below hx.f).mono HB1.out.size))
     have HFX:=hid hx.f
     have HDX:=hid hd'
     have HBZ:=hid hbz
     have HNB:=hid hb3;have HLB:=hid hb1
     clear hall hx hd' hb1 hb2 hb3 hbz
     simp only [putsFrom,Act.put,qA,qB,qC,Nat.zero_add,Nat.reduceAdd]
     simp only [e9,e11]
     clear e9 e11
     have hlA:=(Array.getElem?_eq_some_iff.1 HBZ1.out).1
     have HBZ2:=hid ((HFX.out.block b1 (Nat.lt_of_lt_of_le hlA HB0Y.out.size) HNB2.out).trans ((HB0Y.out.block b1 hlA).trans HBZ1.out))
     have hEQ:=apply_any_ix (newC (min (max 3 1) 32) 3 0 0 0 0) [] (k:Int) 0 bs
     have e1:r1=applyD ⟨newC (min (max 3 1) 32) 3 0 0 0 0,[],(k:Int)⟩ ((k:Int)+1) 1 bs:=by rw [HR1.out,HIX.out,HSD.out,HD1.out]
     have e2:r=applyD ⟨newC (min (max 3 1) 32) 3 0 0 0 0,[],0⟩ (0+1) 1 bs:=by
      have:s.ix=0:=congrArg MD.ix HD2.out
      rw [HRR.out,this,HD2.out]
     rw [←e1,←e2] at hEQ
     obtain ⟨q1,q2,q3⟩:=hEQ
     have HE1:=hid (show bytesM t1.d=bytesM s'.d from by unfold bytesM;rw [HD1'.out,HDX.out,q2,q3])
     have HY1:=hid fun W (hb:Below X.heap.size X W)=>mBytes_any (H2X.out.n.below hb)
     have HY2:=hid fun W (hb:Below X.heap.size X W)=>mBytes_any (H2X.out.m.below hb)
     rw [HE1.out] at HY1
     have HLt:=hid (bytesM_lt s'.d)
     unfold MBRet' at HY1 HY2
     generalize bytesM s'.d=Lb at *
     obtain ⟨ln,hln⟩:∃ n,n=Lb.length:=⟨_,rfl⟩
     have HLN:=hid hln
     rw [←hln] at HY1 HY2
     have hz1:=HBZ2.out;have hz2:=HBZ.out
     rw [q1] at hz1 ⊢
     generalize r.2.2=er at *
     generalize r.2.1=an at *
     unfold ansA at hz1 hz2
     obtain ⟨⟨y0,y1,y2,y3,y4⟩,-,yl⟩:=box5 hz1
     obtain ⟨⟨x0,x1,x2,x3,x4⟩,-,xl⟩:=box5 hz2
     clear hln HE1 hlA e1 e2 q1 q2 q3 hz1 hz2 HR1 HRR
     go_wp2_with fail
     refine (HY1.out X (Below.refl _ _)).mono ?_
     rintro e w6 ⟨a6,k6,rfl,ho6,hb6⟩
     have HO6:=hid ho6
     have HB6:=hid hb6
     clear ho6 hb6 y0 y1 y2 y3 y4 yl x0 x1 x2 x3 x4 xl
     go_wp2_with fail
     refine (HY2.out w6 HB6.out).mono ?_
     rintro e w7 ⟨a7,k7,rfl,ho7,hb7⟩
     have HSB:=hid (show Calls Tryz.prog 20 #[.slice a6 ln k6,.slice a7 ln k7] w7 (Ret (.bool true) w7) from by
      have ho6:=row_kept HO6.out fun g e=>hb7.block g (HO6.out.lt g e).2
      rw [HLN.out] at ho6 ho7 ⊢
      exact P.sameB_any a6 a7 k6 k7 _ _ Lb Lb true w7 rfl rfl (C.own_bat2 rfl ho6 HLt.out) (C.own_bat2 rfl ho7 HLt.out) (decide_eq_true rfl))
     have HB7:=hid (HBX.out.trans ((HB6.out.trans (hb7.mono HB6.out.size)).mono HBX.out.size))
     clear ho7 hb7 HO6 HB6
     go_wp2_with fail
     refine HSB.out.mono ?_
     rintro e w8 ⟨rfl,hb8⟩
     go_wp2_with fail
     go_ret
     exact ⟨rfl,HB7.out.trans (hb8.mono HB7.out.size)⟩
    ·exact fun _ _ _ _ h=>h.elim
   ·exact fun _ _ _ _ h=>h.elim

end Go.Proofs.YtdeeoddacnealaaGreat.M