/- Several texts as one: YA YB YI YS YD YT YU YV. -/
import Derived.Maps.OwnSet
import Derived.Test.YtdeeoddacnealaaGreatMV
import Derived.Test.YtdeeoddacnealaaGreatMC0
import Derived.Test.YtdeeoddacnealaaGreatMVU
import Derived.Deep.CutRange
import Derived.Test.YtdeeoddacnealaaGreatMCA
import Derived.Test.YtdeeoddacnealaaGreatMNC
import Derived.Test.YtdeeoddacnealaaGreatMCH
import Derived.Test.YtdeeoddacnealaaGreatMNK
set_option linter.unusedVariables false
set_option linter.unusedSimpArgs false
namespace Go.Proofs.YtdeeoddacnealaaGreat.Z
open Go.Maps

structure SIt where
 seq:Int
 code:Int
 num:Int
instance:Inhabited SIt:=⟨⟨0,0,0⟩⟩
def SIt.enc (x:SIt):List Value:=[.int .i64 x.seq,.int .i64 x.code,.int .i64 x.num]
theorem SIt.enc_len (x:SIt):x.enc.length=3:=rfl
theorem SIt.enc_one (x:SIt):∀ u∈x.enc,u.oneCell'=true:=by intro u hu;simp [SIt.enc] at hu;rcases hu with rfl|rfl|rfl <;> rfl
def sCells (its:List SIt):List Value:=its.flatMap SIt.enc
theorem sCells_len (its:List SIt):(sCells its).length=its.length * 3:=flat_len SIt.enc_len its
theorem sCells_one (its:List SIt):∀ u∈sCells its,u.oneCell'=true:=by
 intro u hu
 obtain ⟨x,_,hx⟩:=List.mem_flatMap.1 hu
 exact x.enc_one u hx
structure SD where
 id:Int
 hi:Int
 ks:List SIt
structure SL where
 d:SD
 p:Nat
 a:Option Addr
 c:Nat

def risK (ks:List SIt):Prop:=ks.Pairwise fun x y=>x.seq<y.seq
def plc (ks:List SIt) (n:Int):Nat:=ks.findIdx fun x=>!decide (x.seq<n)
def hasK (ks:List SIt) (n:Int):Bool:=match ks[plc ks n]? with|some x=>decide (x.seq=n)|none=>false
theorem plc_le (ks:List SIt) (n:Int):plc ks n≤ks.length:=List.findIdx_le_length
theorem it_some {ks:List SIt} {k:Nat} (h:k<ks.length):ks[k]? = some (ks[k]?.getD default):=by rw [List.getElem?_eq_getElem h];rfl
theorem plc_lt {ks:List SIt} {n:Int} {i:Nat} {x:SIt} (h:i<plc ks n) (hx:ks[i]? = some x):x.seq<n:=by
 unfold plc at h
 have:=List.not_of_lt_findIdx h
 have e:ks[i]'(by have:=(List.getElem?_eq_some_iff.1 hx).1;exact this)=x:=(List.getElem?_eq_some_iff.1 hx).2
 rw [e] at this
 simpa using this
theorem plc_ge {ks:List SIt} (h:risK ks) {n:Int} {i:Nat} {x:SIt} (hi:plc ks n≤i) (hx:ks[i]? = some x):n≤x.seq:=by
 obtain ⟨hil,e⟩:=List.getElem?_eq_some_iff.1 hx
 have hp:plc ks n<ks.length:=by omega
 have h1:n≤(ks[plc ks n]).seq:=by
  have:=List.findIdx_getElem (p:=fun x:SIt=>!decide (x.seq<n)) (xs:=ks) (w:=hp)
  have h2:(!decide ((ks[plc ks n]).seq<n))=true:=this
  simpa using h2
 rcases Nat.eq_or_lt_of_le hi with h2|h2
 ·subst h2;rw [←e];exact h1
 ·have:=List.pairwise_iff_getElem.1 h (plc ks n) i hp hil h2
  rw [e] at this;omega
theorem hasK_mem {ks:List SIt} {n:Int} (h:hasK ks n=true):∃ x,ks[plc ks n]? = some x∧x.seq=n:=by
 unfold hasK at h
 cases hx:ks[plc ks n]? with
 | none=>rw [hx] at h;cases h
 | some x=>rw [hx] at h;exact ⟨x,rfl,by simpa using h⟩
theorem hasK_any {ks:List SIt} (h:risK ks) (n:Int):hasK ks n=ks.any fun x=>decide (x.seq=n):=by
 rw [Bool.eq_iff_iff,List.any_eq_true]
 constructor
 ·intro hh
  obtain ⟨x,hx,e⟩:=hasK_mem hh
  exact ⟨x,List.mem_of_getElem? hx,by simpa using e⟩
 ·rintro ⟨x,hx,e⟩
  obtain ⟨i,hi⟩:=List.mem_iff_getElem?.1 hx
  have e:x.seq=n:=by simpa using e
  have h1:plc ks n≤i:=Nat.le_of_not_lt fun h2=>by have:=plc_lt h2 hi;omega
  have hil:=(List.getElem?_eq_some_iff.1 hi).1
  have hp:plc ks n<ks.length:=by omega
  have hy:ks[plc ks n]? = some (ks[plc ks n]):=List.getElem?_eq_getElem hp
  have h2:=plc_ge h (Nat.le_refl _) hy
  have h3:(ks[plc ks n]).seq=n:=by
   rcases Nat.eq_or_lt_of_le h1 with h4|h4
   ·rw [←h4] at hi;rw [hy] at hi;cases hi;exact e
   ·have:=List.pairwise_iff_getElem.1 h (plc ks n) i hp hil h4
    have e2:=(List.getElem?_eq_some_iff.1 hi).2
    rw [e2,e] at this;omega
  unfold hasK;rw [hy];simpa using h3
def insK (ks:List SIt) (x:SIt):List SIt:=ks.take (plc ks x.seq)++[x]++ks.drop (plc ks x.seq)
def keepK (m:Int) (ks:List SIt):List SIt:=ks.filter fun x=>!decide (x.seq≤m)
theorem keepK_len (m:Int) (ks:List SIt):(keepK m ks).length≤ks.length:=List.length_filter_le _ _
theorem insK_len (ks:List SIt) (x:SIt):(insK ks x).length=ks.length+1:=by
 have:=plc_le ks x.seq
 unfold insK
 simp only [List.length_append,List.length_take,List.length_drop,List.length_singleton]
 omega
theorem insK_mem {ks:List SIt} {x y:SIt}:y∈insK ks x↔y=x∨y∈ks:=by
 unfold insK
 rw [List.mem_append,List.mem_append,List.mem_singleton]
 constructor
 ·rintro ((h|h)|h)
  ·exact .inr (List.mem_of_mem_take h)
  ·exact .inl h
  ·exact .inr (List.mem_of_mem_drop h)
 ·rintro (h|h)
  ·exact .inl (.inr h)
  ·rw [←List.take_append_drop (plc ks x.seq) ks] at h
   rcases List.mem_append.1 h with h|h
   ·exact .inl (.inl h)
   ·exact .inr h
theorem insK_ris {ks:List SIt} (h:risK ks) {x:SIt} (hx:hasK ks x.seq=false):risK (insK ks x):=by
 have h1:∀ y∈ks.take (plc ks x.seq),y.seq<x.seq:=fun y hy=>by
  obtain ⟨i,hi⟩:=List.mem_iff_getElem?.1 hy
  rw [List.getElem?_take] at hi
  split at hi
  ·exact plc_lt ‹_› hi
  ·cases hi
 have h2:∀ y∈ks.drop (plc ks x.seq),x.seq<y.seq:=fun y hy=>by
  obtain ⟨i,hi⟩:=List.mem_iff_getElem?.1 hy
  rw [List.getElem?_drop] at hi
  have h3:=plc_ge h (Nat.le_add_right _ i) hi
  refine Int.lt_iff_le_and_ne.2 ⟨h3,fun e=>?_⟩
  have:=hasK_any h x.seq
  rw [hx] at this
  have h4:=List.any_eq_false.1 this.symm y (List.mem_of_getElem? hi)
  simp at h4;omega
 unfold risK insK
 rw [List.pairwise_append,List.pairwise_append]
 refine ⟨⟨List.Pairwise.sublist (List.take_sublist _ _) h,List.pairwise_singleton _ _,fun y hy z hz=>by rw [List.mem_singleton.1 hz];exact h1 y hy⟩,List.Pairwise.sublist (List.drop_sublist _ _) h,fun y hy z hz=>?_⟩
 rcases List.mem_append.1 hy with hy|hy
 ·have:=h1 y hy;have:=h2 z hz;omega
 ·rw [List.mem_singleton.1 hy];exact h2 z hz

def risS (t:List SD):Prop:=t.Pairwise fun x y=>x.id<y.id
def findS (t:List SD) (id:Int):Option SD:=t.find? fun s=>decide (s.id=id)
theorem findS_some {t:List SD} {id:Int} {s:SD} (h:findS t id=some s):s∈t∧s.id=id:=⟨List.mem_of_find?_eq_some h,by simpa using List.find?_some h⟩
theorem findS_none {t:List SD} {id:Int} (h:findS t id=none):∀ s∈t,s.id≠id:=fun s hs e=>by
 have:=List.find?_eq_none.1 h s hs
 simp at this;exact this e
def okN (n:Int):Bool:=decide (1≤n) && decide (n≤1099511627776)
theorem okN_iff {n:Int}:okN n=true↔1≤n∧n≤1099511627776:=by unfold okN;simp
def lookT (t:List SD) (id seq:Int):Int×Int×Int :=
 if (okN id && okN seq)=false then (43,0,0) else match findS t id with
 | none=>if t.length=16 then (131,0,0) else (0,0,0)
 | some s=>if seq≤s.hi-8 then (130,0,0) else if hasK s.ks seq=true then (5,(s.ks[plc s.ks seq]?.getD default).code,(s.ks[plc s.ks seq]?.getD default).num) else (0,0,0)
def putS (s:SD) (x:SIt):SD:=⟨s.id,max s.hi x.seq,keepK (max s.hi x.seq-8) (insK s.ks x)⟩
def insT (s:SD):List SD→List SD
 | []=>[s]
 | y :: t=>if s.id<y.id then s :: y :: t else if s.id=y.id then s :: t else y :: insT s t
def putT (t:List SD) (id:Int) (x:SIt):List SD:=insT (putS ((findS t id).getD ⟨id,0,[]⟩) x) t
def okV (c n:Int):Bool:=decide (0≤c) && decide (c≤999) && decide (0≤n) && decide (n≤1099511627776)
theorem insT_mem {s y:SD}:∀ {t:List SD},risS t→(y∈insT s t↔y=s∨(y∈t∧y.id≠s.id))
 | [],_=>by unfold insT;rw [List.mem_singleton];simp
 | z :: t,h=>by
  obtain ⟨h1,h2⟩:=List.pairwise_cons.1 h
  unfold insT
  split
  case isTrue hlt =>
   rw [List.mem_cons]
   refine or_congr Iff.rfl ⟨fun hy=>⟨hy,fun e=>?_⟩,fun hy=>hy.1⟩
   rcases List.mem_cons.1 hy with rfl|hy
   ·omega
   ·have:=h1 y hy;omega
  case isFalse hlt =>
   split
   case isTrue he =>
    rw [List.mem_cons,List.mem_cons]
    refine or_congr Iff.rfl ⟨fun hy=>⟨.inr hy,fun e=>?_⟩,fun hy=>hy.1.resolve_left fun e=>hy.2 (by rw [e];exact he.symm)⟩
    have:=h1 y hy;omega
   case isFalse he =>
    rw [List.mem_cons,insT_mem h2,List.mem_cons]
    constructor
    ·rintro (rfl|rfl|⟨h3,h4⟩)
     ·exact .inr ⟨.inl rfl,fun e=>he e.symm⟩
     ·exact .inl rfl
     ·exact .inr ⟨.inr h3,h4⟩
    ·rintro (rfl|⟨rfl|h3,h4⟩)
     ·exact .inr (.inl rfl)
     ·exact .inl rfl
     ·exact .inr (.inr ⟨h3,h4⟩)
theorem insT_ris {s:SD}:∀ {t:List SD},risS t→risS (insT s t)
 | [],_=>List.pairwise_singleton _ _
 | z :: t,h=>by
  obtain ⟨h1,h2⟩:=List.pairwise_cons.1 h
  unfold insT
  split
  case isTrue hlt =>
   refine List.pairwise_cons.2 ⟨fun y hy=>?_,h⟩
   rcases List.mem_cons.1 hy with rfl|hy
   ·exact hlt
   ·have:=h1 y hy;omega
  case isFalse hlt =>
   split
   case isTrue he=>exact List.pairwise_cons.2 ⟨fun y hy=>by have:=h1 y hy;omega,h2⟩
   case isFalse he =>
    refine List.pairwise_cons.2 ⟨fun y hy=>?_,insT_ris h2⟩
    rcases (insT_mem h2).1 hy with rfl|⟨hy,_⟩
    ·omega
    ·exact h1 y hy
theorem insT_len {s:SD}:∀ t:List SD,(insT s t).length≤t.length+1
 | []=>Nat.le_refl _
 | z :: t=>by
  have:=insT_len (s:=s) t
  unfold insT;split
  ·simp
  ·split <;> simp <;> omega
theorem insT_same {s:SD}:∀ {t:List SD},risS t→(∃ y∈t,y.id=s.id)→(insT s t).length=t.length
 | [],_,⟨_,h,_⟩=>nomatch h
 | z :: t,h,⟨y,hy,e⟩=>by
  obtain ⟨h1,h2⟩:=List.pairwise_cons.1 h
  unfold insT
  split
  case isTrue hlt =>
   rcases List.mem_cons.1 hy with rfl|hy
   ·omega
   ·have:=h1 y hy;omega
  case isFalse hlt =>
   split
   ·simp
   ·rename_i he
    rcases List.mem_cons.1 hy with rfl|hy
    ·exact absurd e.symm he
    ·simp [insT_same h2 ⟨y,hy,e⟩]
theorem insT_insT {s s':SD} (e:s.id=s'.id):∀ t:List SD,insT s (insT s' t)=insT s t
 | []=>by
  show insT s [s']=[s]
  unfold insT
  rw [if_neg (by omega),if_pos e]
 | y :: t=>by
  have h1:insT s' (y :: t)=if s'.id<y.id then s' :: y :: t else if s'.id=y.id then s' :: t else y :: insT s' t:=rfl
  have h2:insT s (y :: t)=if s.id<y.id then s :: y :: t else if s.id=y.id then s :: t else y :: insT s t:=rfl
  have h3:∀ l,insT s (s' :: l)=s :: l:=fun l=>by
   show (if s.id<s'.id then s :: s' :: l else if s.id=s'.id then s :: l else s' :: insT s l)=_
   rw [if_neg (by omega),if_pos e]
  rw [h1,h2]
  by_cases h:s'.id<y.id
  ·rw [if_pos h,if_pos (by omega:s.id<y.id),h3]
  ·rw [if_neg h,if_neg (by omega:¬s.id<y.id)]
   by_cases h':s'.id=y.id
   ·rw [if_pos h',if_pos (by omega:s.id=y.id),h3]
   ·rw [if_neg h',if_neg (by omega:¬s.id=y.id)]
    show (if s.id<y.id then s :: y :: insT s' t else if s.id=y.id then s :: insT s' t else y :: insT s (insT s' t))=_
    rw [if_neg (by omega),if_neg (by omega),insT_insT e t]
structure TInv (t:List SD):Prop where
 up:risS t
 many:t.length≤16
 one:∀ s∈t,(1≤s.id∧s.id≤1099511627776)∧(1≤s.hi∧s.hi≤1099511627776)∧risK s.ks∧∀ x∈s.ks,s.hi-8<x.seq∧x.seq≤s.hi∧1≤x.seq∧0≤x.code∧x.code≤999∧0≤x.num∧x.num≤1099511627776
theorem TInv.nil:TInv []:=⟨List.Pairwise.nil,Nat.zero_le _,fun _ h=>nomatch h⟩
theorem ris_len:∀ {ks:List SIt} {lo hi:Int},risK ks→(∀ x∈ks,lo<x.seq∧x.seq≤hi)→(ks.length:Int)≤max (hi-lo) 0
 | [],_,_,_,_=>by simp;omega
 | x :: ks,lo,hi,h,hb=>by
  obtain ⟨h1,h2⟩:=List.pairwise_cons.1 h
  have hx:=hb x List.mem_cons_self
  have:=ris_len (ks:=ks) (lo:=x.seq) (hi:=hi) h2 fun y hy=>⟨h1 y hy,(hb y (List.mem_cons_of_mem _ hy)).2⟩
  simp only [List.length_cons];omega
theorem TInv.len {t:List SD} (h:TInv t) {s:SD} (hs:s∈t):s.ks.length≤8:=by
 obtain ⟨_,_,h3,h4⟩:=h.one s hs
 have:=ris_len (ks:=s.ks) (lo:=s.hi-8) (hi:=s.hi) h3 fun x hx=>⟨(h4 x hx).1,(h4 x hx).2.1⟩
 omega
theorem look_zero {t:List SD} {id seq:Int} (h:(lookT t id seq).1=0):(1≤id∧id≤1099511627776)∧(1≤seq∧seq≤1099511627776)∧((findS t id=none∧t.length≠16)∨∃ s,findS t id=some s∧s.hi-8<seq∧hasK s.ks seq=false):=by
 unfold lookT at h
 by_cases h1:(okN id && okN seq)=false
 ·rw [if_pos h1] at h;cases h
 ·rw [if_neg h1] at h
  have h2:okN id=true∧okN seq=true:=by simpa using h1
  refine ⟨okN_iff.1 h2.1,okN_iff.1 h2.2,?_⟩
  cases hf:findS t id with
  | none =>
   rw [hf] at h
   simp only at h
   split at h
   ·cases h
   ·exact .inl ⟨rfl,‹_›⟩
  | some s =>
   rw [hf] at h
   simp only at h
   split at h
   ·cases h
   ·split at h
    ·cases h
    ·rename_i h3 h4
     exact .inr ⟨s,rfl,by omega,by simpa using h4⟩
theorem TInv.put {t:List SD} (h:TInv t) {id:Int} {x:SIt} (hl:(lookT t id x.seq).1=0) (hv:okV x.code x.num=true):TInv (putT t id x):=by
 obtain ⟨h1,h2,h3⟩:=look_zero hl
 have hv':((0≤x.code∧x.code≤999)∧0≤x.num)∧x.num≤1099511627776:=by unfold okV at hv;simpa using hv
 have key:∀ s:SD,(∃ m,s.hi=m∧0≤m∧m≤1099511627776)→risK s.ks→hasK s.ks x.seq=false→s.hi-8<x.seq→(∀ y∈s.ks,s.hi-8<y.seq∧y.seq≤s.hi∧1≤y.seq∧0≤y.code∧y.code≤999∧0≤y.num∧y.num≤1099511627776)→(1≤(putS s x).hi∧(putS s x).hi≤1099511627776)∧risK (putS s x).ks∧∀ y∈(putS s x).ks,(putS s x).hi-8<y.seq∧y.seq≤(putS s x).hi∧1≤y.seq∧0≤y.code∧y.code≤999∧0≤y.num∧y.num≤1099511627776:=by
  rintro s ⟨m,hm,hm1,hm2⟩ hr hh hlo hall
  refine ⟨by unfold putS;simp only;omega,List.Pairwise.sublist List.filter_sublist (insK_ris hr hh),fun y hy=>?_⟩
  obtain ⟨hy1,hy2⟩:=List.mem_filter.1 hy
  have hy2:¬y.seq≤max s.hi x.seq-8:=by simpa using hy2
  have e:(putS s x).hi=max s.hi x.seq:=rfl
  rw [e]
  rcases insK_mem.1 hy1 with rfl|hy1
  ·omega
  ·have:=hall y hy1;omega
 rcases h3 with ⟨h3,h4⟩|⟨s,h3,h4,h5⟩
 ·have e:putT t id x=insT (putS ⟨id,0,[]⟩ x) t:=by unfold putT;rw [h3];rfl
  rw [e]
  refine ⟨insT_ris h.up,by have:=insT_len (s:=putS ⟨id,0,[]⟩ x) t;have:=h.many;omega,fun s hs=>?_⟩
  rcases (insT_mem h.up).1 hs with rfl|⟨hs,_⟩
  ·exact ⟨h1,key ⟨id,0,[]⟩ ⟨0,rfl,by omega,by omega⟩ List.Pairwise.nil rfl (by simp only;omega) fun _ h=>nomatch h⟩
  ·exact h.one s hs
 ·have e:putT t id x=insT (putS s x) t:=by unfold putT;rw [h3];rfl
  obtain ⟨hm,hid⟩:=findS_some h3
  obtain ⟨k1,k2,k3,k4⟩:=h.one s hm
  rw [e]
  refine ⟨insT_ris h.up,by rw [insT_same (s:=putS s x) h.up ⟨s,hm,rfl⟩];exact h.many,fun y hy=>?_⟩
  rcases (insT_mem h.up).1 hy with rfl|⟨hy,_⟩
  ·exact ⟨k1,key s ⟨_,rfl,by omega,by omega⟩ k3 h5 h4 k4⟩
  ·exact h.one y hy

def SL.val (o:SL):Value:=.pointer (some ⟨o.p,0,none⟩)
def entry (o:SL):Lit×DataW Value:=(.int .i64 o.d.id,.held o.val)
def datOf (os:List SL):DataW Value:=.map (os.map entry)
def heldR (v:Value):Option (DataW Value×List MemPlace):=some (.held v,[])
def findL (os:List SL) (id:Int):Option SL:=os.find? fun o=>decide (o.d.id=id)
theorem findL_d (os:List SL) (id:Int):(findL os id).map SL.d=findS (os.map SL.d) id:=by
 unfold findL findS
 rw [List.find?_map];rfl
theorem same_entry (o:SL) (k:Int):(entry o).1.sameKey (.int .i64 k)=decide (o.d.id=k):=by
 simp [entry,Lit.sameKey]
theorem dat_size (os:List SL):Maps.size (datOf os)=os.length:=by
 unfold datOf
 rw [Maps.size_eq,List.length_map]
theorem dat_at (os:List SL) (k:Int) (z:DataW Value):(datOf os).atKey (.int .i64 k) z=match findL os k with
  | some o=>.held o.val
  | none=>z:=by
 unfold datOf DataW.atKey findL
 simp only
 rw [List.find?_map]
 have e:((fun p:Lit×DataW Value=>p.1.sameKey (.int .i64 k)) ∘ entry)=fun o=>decide (o.d.id=k):=by
  funext o;exact same_entry o k
 rw [e]
 cases os.find? (fun o=>decide (o.d.id=k)) <;> rfl
def insL (x:SL):List SL→List SL
 | []=>[x]
 | y :: t=>if x.d.id<y.d.id then x :: y :: t else if x.d.id=y.d.id then x :: t else y :: insL x t
theorem insL_d (x:SL):∀ os:List SL,(insL x os).map SL.d=insT x.d (os.map SL.d)
 | []=>rfl
 | y :: t=>by
  unfold insL
  rw [List.map_cons]
  unfold insT
  split
  ·rfl
  ·split
   ·rfl
   ·rw [List.map_cons,insL_d x t]
theorem insert_at (x:SL):∀ os:List SL,(∀ o∈os,o.d.id≠x.d.id)→DataW.insert (entry x) (os.map entry)=(insL x os).map entry
 | [],_=>rfl
 | y :: r,h=>by
  have hy:=h y List.mem_cons_self
  rw [List.map_cons]
  unfold DataW.insert insL
  have hb:(entry x).1.before (entry y).1=decide (x.d.id<y.d.id):=by simp [entry,Lit.before]
  rw [hb]
  by_cases hlt:x.d.id<y.d.id
  ·rw [if_pos (decide_eq_true hlt),if_pos hlt];rfl
  ·rw [if_neg (by simpa using hlt),if_neg hlt,if_neg (fun e=>hy e.symm),insert_at x r fun z hz=>h z (List.mem_cons_of_mem _ hz)];rfl
theorem dat_put (os:List SL) (x:SL) (h:∀ o∈os,o.d.id≠x.d.id):(datOf os).put (.int .i64 x.d.id) (.held x.val)=datOf (insL x os):=by
 unfold datOf DataW.put
 simp only
 have hf:(os.map entry).filter (fun p=>!p.1.sameKey (.int .i64 x.d.id))=os.map entry:=by
  rw [List.filter_eq_self]
  intro p hp
  obtain ⟨o,ho,rfl⟩:=List.mem_map.1 hp
  rw [same_entry]
  have:=h o ho
  simpa using this
 rw [hf]
 exact congrArg _ (insert_at x os h)
theorem insL_same {x:SL}:∀ {os:List SL},risS (os.map SL.d)→(∃ o∈os,o.d.id=x.d.id∧o.p=x.p)→datOf (insL x os)=datOf os
 | [],_,⟨_,h,_⟩=>nomatch h
 | z :: t,h,⟨y,hy,e,e'⟩=>by
  obtain ⟨h1,h2⟩:=List.pairwise_cons.1 (show ((z :: t).map SL.d).Pairwise _ from h)
  have h1:∀ o∈t,z.d.id<o.d.id:=fun o ho=>h1 o.d (List.mem_map_of_mem ho)
  unfold insL
  by_cases hlt:x.d.id<z.d.id
  ·exfalso
   rcases List.mem_cons.1 hy with rfl|hy
   ·omega
   ·have:=h1 y hy;omega
  ·rw [if_neg hlt]
   by_cases he:x.d.id=z.d.id
   ·rw [if_pos he]
    rcases List.mem_cons.1 hy with rfl|hy
    ·unfold datOf entry SL.val;simp only [List.map_cons];rw [he,e']
    ·have:=h1 y hy;omega
   ·rw [if_neg he]
    rcases List.mem_cons.1 hy with rfl|hy
    ·exact absurd e.symm he
    ·have:=insL_same (x:=x) (os:=t) h2 ⟨y,hy,e,e'⟩
     unfold datOf at this ⊢
     simp only [List.map_cons]
     injection this with this
     rw [this]
theorem insL_mem {x y:SL}:∀ {os:List SL},risS (os.map SL.d)→(y∈insL x os↔y=x∨(y∈os∧y.d.id≠x.d.id))
 | [],_=>by unfold insL;rw [List.mem_singleton];simp
 | z :: t,h=>by
  obtain ⟨h1,h2⟩:=List.pairwise_cons.1 (show ((z :: t).map SL.d).Pairwise _ from h)
  have h1:∀ o∈t,z.d.id<o.d.id:=fun o ho=>h1 o.d (List.mem_map_of_mem ho)
  unfold insL
  split
  case isTrue hlt =>
   rw [List.mem_cons]
   refine or_congr Iff.rfl ⟨fun hy=>⟨hy,fun e=>?_⟩,fun hy=>hy.1⟩
   rcases List.mem_cons.1 hy with rfl|hy
   ·omega
   ·have:=h1 y hy;omega
  case isFalse hlt =>
   split
   case isTrue he =>
    rw [List.mem_cons,List.mem_cons]
    refine or_congr Iff.rfl ⟨fun hy=>⟨.inr hy,fun e=>?_⟩,fun hy=>hy.1.resolve_left fun e=>hy.2 (by rw [e];exact he.symm)⟩
    have:=h1 y hy;omega
   case isFalse he =>
    rw [List.mem_cons,insL_mem h2,List.mem_cons]
    constructor
    ·rintro (rfl|rfl|⟨h3,h4⟩)
     ·exact .inr ⟨.inl rfl,fun e=>he e.symm⟩
     ·exact .inl rfl
     ·exact .inr ⟨.inr h3,h4⟩
    ·rintro (rfl|⟨rfl|h3,h4⟩)
     ·exact .inr (.inl rfl)
     ·exact .inl rfl
     ·exact .inr (.inr ⟨h3,h4⟩)
open Go.RowKit

theorem vItemInfo:(Tryz.prog.info? 262).map (fun i=>(i.zero,i.size,i.bytes))=some (some (.agg #[.int .i64 0,.int .i64 0,.int .i64 0]),3,24):=by kernel_rfl

set_option maxRecDepth 100000 in
theorem vIns_end (v:Value) (vb B n:Nat) (cs xs:List Value) (w:World) (hB:B≤w.heap.size) (hown:w.ownsRow B 262 3 v n cs) (hn:n≤4294967296) (hxl:xs.length=3) (h1x:∀ u∈xs,u.oneCell'=true)
  (hx:∀ j u,xs[j]? = some u→w.cell? ((⟨vb,0,none⟩:Addr).add j)=some u) :
  ∃ v' w',w'.ownsRow B 262 3 v' (n+1) (cs++xs)∧Grew w w' v v' ∧
   Calls Tryz.prog 151 #[v,.int .i64 n,.slice (some ⟨vb,0,none⟩) 1 1] w fun e W=>e=.returned v'∧W=w':=by
 obtain ⟨i0,hi0,hz0,hzs,hzb⟩:=info_parts vItemInfo
 obtain ⟨v',w',hr,h2,h3⟩:=run_append_own2 w B 256 262 i0 _ 3 24 Tryz.underlying256 hi0 hz0 hzs hzb rfl (by omega) v n cs hown ⟨vb,0,none⟩ 1 1 xs (by omega) hx h1x (by omega) (by unfold maxLen;omega) (by omega) hB
 refine ⟨v',w',h2,h3,?_⟩
 clear h2 h3 hx h1x
 rcases hown.2 with ⟨rfl,rfl⟩|⟨g,cap,cur,rfl,hbg,hg,hnc,hcm,hcs,htake⟩
 ·clear hown
  go_enter Tryz.func151,Tryz.ntmps151
  go_wp2_with (at_builtin;refine Lib.wpList_append_run _ rfl _ _ _ _ rfl _ _ rfl rfl _ _ (hr _) ?_)
  go_ret
  exact ⟨rfl,rfl⟩
 ·clear hown hg hcs htake
  unfold maxLen at hcm
  by_cases hcn:cap=n
  ·subst hcn
   go_enter Tryz.func151,Tryz.ntmps151
   go_wp2_with (at_builtin;refine Lib.wpList_append_run _ rfl _ _ _ _ rfl _ _ rfl rfl _ _ (hr _) ?_)
   all_goals (go_ret;exact ⟨rfl,rfl⟩)
  ·go_enter Tryz.func151,Tryz.ntmps151
   go_wp2_with (at_builtin;refine Lib.wpList_append_run _ rfl _ _ _ _ rfl _ _ rfl rfl _ _ (hr _) ?_)
   all_goals (go_ret;exact ⟨rfl,rfl⟩)

set_option maxRecDepth 100000 in
theorem vIns_shift (g n c i vb:Nat) (cur:Array Value) (xs:List Value) (w:World) (hi:i<n) (hroom:n+1≤c) (hc:c≤9223372036854775807) (hvb:vb≠g)
  (hg:w.heap[g]? = some (.cells cur 262 (0,0))) (hcur:cur.size=c * 3) (h1c:∀ u∈cur.toList.take (n * 3),u.oneCell'=true) (hxl:xs.length=3) (h1x:∀ u∈xs,u.oneCell'=true)
  (hv:w.heap[vb]? = some (.cells xs.toArray 262 (0,0))) :
  Calls Tryz.prog 151 #[.slice (some ⟨g,0,none⟩) n c,.int .i64 i,.slice (some ⟨vb,0,none⟩) 1 1] w fun e W=>e=.returned (.slice (some ⟨g,0,none⟩) (n+1) c)∧w.grownBy W (some g) ∧
   ∃ cur':Array Value,W.heap[g]? = some (.cells cur' 262 (0,0))∧cur'.size=cur.size∧cur'.toList.take ((n+1) * 3)=cur.toList.take (i * 3)++xs++(cur.toList.take (n * 3)).drop (i * 3):=by
 obtain ⟨i0,hi0,hz0,hzs,hzb⟩:=info_parts vItemInfo
 have hsz:(Tryz.prog.info? 262).map (·.size)=some 3:=by rw [hi0];simp [hzs]
 obtain ⟨mid,hmid⟩:∃ mid,mid=(cur.toList.take (n * 3)).drop (i * 3):=⟨_,rfl⟩
 have hml:mid.length=(n-i) * 3:=by rw [hmid];simp;omega
 have h1m:∀ u∈mid,u.oneCell'=true:=fun u hu=>h1c u (by rw [hmid] at hu;exact List.mem_of_mem_drop hu)
 have hmc:∀ j u,mid[j]? = some u→w.drew.cell? ((⟨g,i * 3,none⟩:Addr).add j)=some u:=fun j u hj=>by
  rw [hmid,List.getElem?_drop,List.getElem?_take] at hj
  split at hj
  ·rw [Addr.add_lit]
   show w.cell? _=_
   rw [cell_row hg];simpa using hj
  ·cases hj
 have hcp1:=fun ty dc sc=>run_copy_rowK (P:=Tryz.prog) w.drew 256 256 ty 262 3 g ((i+1) * 3) (n-i) dc ⟨g,i * 3,none⟩ (n+1-i) sc cur 262 mid Tryz.underlying256 hsz (show w.drew.heap[g]? = _ from hg)
  (by rw [hml];simp only [Nat.min_def];split <;> omega) hmc (by rw [hml,hcur];omega) h1m
 obtain ⟨R1,hR1⟩:∃ R1:Array Value,R1=(cur.toList.take ((i+1) * 3)++mid++cur.toList.drop ((i+1) * 3+mid.length)).toArray:=⟨_,rfl⟩
 rw [←hR1] at hcp1
 have hR1s:R1.size=cur.size:=by rw [hR1];simp [hml,hcur];omega
 obtain ⟨w1,hw1⟩:∃ w1,w1=w.drew.setRow g R1:=⟨_,rfl⟩
 rw [←hw1] at hcp1
 have hg1:w1.heap[g]? = some (.cells R1 262 (0,0)):=by rw [hw1];exact setRow_heap w.drew g cur _ _ (0,0) hg
 have hv1:w1.heap[vb]? = some (.cells xs.toArray 262 (0,0)):=by rw [hw1,setRow_other _ _ _ _ hvb];exact hv
 have hcp2:=fun ty dc=>run_copy_rowK (P:=Tryz.prog) w1 256 256 ty 262 3 g (i * 3) (n+1-i) dc ⟨vb,0,none⟩ 1 1 R1 262 xs Tryz.underlying256 hsz hg1
  (by rw [hxl];simp only [Nat.min_def];split <;> omega) (fun j u hj=>by rw [addr0,cell_row hv1];simpa using hj) (by rw [hxl,hR1s,hcur];omega) h1x
 obtain ⟨R2,hR2⟩:∃ R2:Array Value,R2=(R1.toList.take (i * 3)++xs++R1.toList.drop (i * 3+xs.length)).toArray:=⟨_,rfl⟩
 rw [←hR2] at hcp2
 have fin:w.grownBy (w1.setRow g R2) (some g)∧∃ cur':Array Value,(w1.setRow g R2).heap[g]? = some (.cells cur' 262 (0,0))∧cur'.size=cur.size∧cur'.toList.take ((n+1) * 3)=cur.toList.take (i * 3)++xs++(cur.toList.take (n * 3)).drop (i * 3):=by
  refine ⟨?_,R2,setRow_heap w1 g R1 _ _ (0,0) hg1,by rw [hR2];simp [hxl,hR1s,hcur];omega,?_⟩
  ·rw [hw1]
   have a1:=grownBy_setRow w.drew g R1
   have a2:=grownBy_setRow (w.drew.setRow g R1) g R2
   exact ⟨rfl,rfl,rfl,by simp,fun k hk hne=>(a2.block k (by simpa using hk) hne).trans (a1.block k hk hne)⟩
  ·have:=ins_list cur.toList mid xs (cur.toList.drop ((i+1) * 3+mid.length)) (i * 3) (by simp [hxl,hcur];omega) ((n+1) * 3) (by rw [hxl,hml];omega)
   rw [←hmid,←this,hR2,hR1]
   simp only [hxl,show (i+1) * 3=i * 3+3 by omega]
 have hov:∀ lb cb,(callFunc 209 #[.slice (some ⟨vb,0,none⟩) 1 1,.slice (some ⟨g,(i+1) * 3,none⟩) lb cb]).run Tryz.prog w=.ok (.value (.bool false)) w:=fun lb cb=>by
  rw [run_callFunc_extern Tryz.func209 (by kernel_rfl) (by kernel_rfl) (by kernel_rfl) (e:=Extern.SlicesOverlaps.overlaps #[256,256] #[4]) (by kernel_rfl),
   Lib.run_overlaps_apart w 256 4 262 Tryz.underlying256 3 Tryz.sizeOf262 ⟨vb,0,none⟩ ⟨g,(i+1) * 3,none⟩ 1 1 lb cb hvb 262 262 3 cur.size (by simp [World.shape?,hv,hxl]) (by simp [World.shape?,hg]) (by omega) (by simp [World.frozen?,hv]) (by simp [World.frozen?,hv])]
  rfl
 have hb2:¬(c=i+1):=by omega
 have hb4:¬(c=i):=by omega
 have hz3:((i:Int) == (n:Int))=false:=by simp;omega
 have hroom':decide ((c:Int)<(n:Int)+1)=false:=by simp;omega
 have hwrap:IntKind.i64.wrap ((i:Int)+1)=(i:Int)+1:=by rw [IntKind.wrap_i64];omega
 have hb1:(0:Int)≤(i:Int)+1:=by omega
 have hin:i≤n:=by omega
 have htn:((i:Int)+1).toNat=i+1:=by omega
 have hb3:(i:Int)≤(n:Int)+1:=by omega
 have hfin:=hid' fin
 clear fin hR2 hv1 hg1 hR1s hmc h1m hml hmid hv hxl h1x hg hcur h1c hR1
 have hW1:=hid' hw1
 clear hw1
 go_enter Tryz.func151,Tryz.ntmps151
 go_wp2_with (simp only [hov])
 go_region_law (refine step_copy_runI rfl _ _ 256 256 rfl _ _ (by simp [Act.eval,Act.put]) (by simp [Act.eval,Act.put]) (hcp1 _ _ _) ?_)
 go_wp2_with (at_builtin;refine wpList_copy_runI _ rfl _ _ 256 256 rfl _ _ rfl rfl (hcp2 _ _) ?_)
 go_ret
 exact ⟨rfl,hfin.out⟩

set_option maxRecDepth 100000 in
theorem vIns_grow (g n i vb:Nat) (cur:Array Value) (xs:List Value) (w:World) (hi:i<n) (hn:n≤4294967296)
  (hg:w.heap[g]? = some (.cells cur 262 (0,0))) (hcur:cur.size=n * 3) (h1c:∀ u∈cur.toList.take (n * 3),u.oneCell'=true) (hxl:xs.length=3) (h1x:∀ u∈xs,u.oneCell'=true)
  (hv:w.heap[vb]? = some (.cells xs.toArray 262 (0,0))) :
  ∃ G,n+1≤G∧G≤maxLen∧Calls Tryz.prog 151 #[.slice (some ⟨g,0,none⟩) n n,.int .i64 i,.slice (some ⟨vb,0,none⟩) 1 1] w fun e W=>e=.returned (.slice (some ⟨w.heap.size,0,none⟩) (n+1) G)∧w.grownBy W (some g) ∧
   ∃ cur':Array Value,W.heap[w.heap.size]? = some (.cells cur' 262 (0,0))∧cur'.size=G * 3∧cur'.toList.take ((n+1) * 3)=cur.toList.take (i * 3)++xs++(cur.toList.take (n * 3)).drop (i * 3):=by
 obtain ⟨i0,hi0,hz0,hzs,hzb⟩:=info_parts vItemInfo
 have hsz:(Tryz.prog.info? 262).map (·.size)=some 3:=by rw [hi0];simp [hzs]
 have hgN:g<w.heap.size:=(Array.getElem?_eq_some_iff.1 hg).1
 have hvN:vb<w.heap.size:=(Array.getElem?_eq_some_iff.1 hv).1
 obtain ⟨N,hN⟩:∃ N,N=w.heap.size:=⟨_,rfl⟩
 obtain ⟨mid,hmid⟩:∃ mid,mid=(cur.toList.take (n * 3)).drop (i * 3):=⟨_,rfl⟩
 have hml:mid.length=(n-i) * 3:=by rw [hmid];simp;omega
 have h1m:∀ u∈mid,u.oneCell'=true:=fun u hu=>h1c u (by rw [hmid] at hu;exact List.mem_of_mem_drop hu)
 have hol:(cur.toList.take (i * 3)).length=i * 3:=by simp;omega
 have hold:(Builtin.firstCells i0.size i (.slice (some ⟨g,0,none⟩) i n)).run Tryz.prog w.drew=.ok (cur.toList.take (i * 3)).toArray w.drew:=by
  rw [hzs]
  exact run_firstCells_some w.drew 3 i ⟨g,0,none⟩ i n (cur.toList.take (i * 3)) (by rw [hol]) (fun j v hj=>by
   rw [addr0]
   show w.cell? _=_
   rw [cell_row hg]
   rw [List.getElem?_take] at hj
   split at hj
   ·simpa using hj
   ·cases hj)
 obtain ⟨G,hG⟩:∃ G,G=grownCap w (n+1) n 262:=⟨_,rfl⟩
 have hGn:n+1≤G:=by rw [hG];exact grownCap_ge w _ _ _
 have hGm:G≤maxLen:=by rw [hG];exact grownCap_le_maxLen w (n+1) n 262 (by unfold maxLen;omega)
 refine ⟨G,hGn,hGm,?_⟩
 unfold maxLen at hGm
 have hkk:(n:Int)+1-(i:Int)=((n+1-i:Nat):Int):=by omega
 have hik:i+(n+1-i)=n+1:=by omega
 obtain ⟨R0,hR0⟩:∃ R0:Array Value,R0=(cur.toList.take (i * 3)).toArray++Builtin.zeroCells (Value.agg #[.int .i64 0,.int .i64 0,.int .i64 0]).cells (n+1-i)++Builtin.zeroCells (Value.agg #[.int .i64 0,.int .i64 0,.int .i64 0]).cells (G-(n+1)):=⟨_,rfl⟩
 have hR0s:R0.size=G * 3:=by
  rw [hR0];simp only [Array.size_append,List.size_toArray,hol,size_zeroCells,Value.cells]
  simp;omega
 have hrz:∀ ty,(Builtin.append_ #[256,3] ty #[.slice (some ⟨g,0,none⟩) i n,.int .i64 ((n:Int)+1-(i:Int))]).run Tryz.prog w =
   .ok (.slice (some ⟨N,0,none⟩) (n+1) G) (w.drew.alloc (.cells R0 262)):=fun ty=>by
  have h:=Lib.run_append_grow_zeros w 256 3 ty 262 i0 _ .i64 .i64 Tryz.underlying256 Tryz.underlying3 hi0 hz0 (some ⟨g,0,none⟩) i n (cur.toList.take (i * 3)) hold (n+1-i) (by omega) (by omega) (by omega) (by omega) (by rw [hzb];omega)
   (by rw [hzb,hik];exact growslice_fits (by omega) (by omega))
  rw [hik] at h
  rw [hkk,hN,hR0,hG]
  exact h
 obtain ⟨w1,hw1⟩:∃ w1,w1=w.drew.alloc (.cells R0 262):=⟨_,rfl⟩
 have h1:w1.heap[N]? = some (.cells R0 262 (0,0)):=by rw [hw1,hN];exact heap_alloc_new w.drew _
 have hold1:∀ k,k<w.heap.size→w1.heap[k]? = w.heap[k]?:=fun k hk=>by
  rw [hw1];exact (World.grownBy_alloc w.drew (.cells R0 262) none).block k hk (by simp)
 have hv1:w1.heap[vb]? = some (.cells xs.toArray 262 (0,0)):=by rw [hold1 vb hvN];exact hv
 have hg1:w1.heap[g]? = some (.cells cur 262 (0,0)):=by rw [hold1 g hgN];exact hg
 obtain ⟨R1,hR1⟩:∃ R1:Array Value,R1=(R0.toList.take (i * 3)++xs++R0.toList.drop (i * 3+xs.length)).toArray:=⟨_,rfl⟩
 have hR1s:R1.size=G * 3:=by rw [hR1];simp [hxl,hR0s];omega
 have hcpA:∀ W:World,W.heap=w1.heap→∀ ty dc,(Builtin.copy_ #[256,256] ty #[.slice (some ⟨N,i * 3,none⟩) (n+1-i) dc,.slice (some ⟨vb,0,none⟩) 1 1]).run Tryz.prog W=.ok (goInt (Nat.min 1 (n+1-i))) (W.setRow N R1):=fun W hW ty dc=>by
  rw [hR1]
  exact run_copy_rowK (P:=Tryz.prog) W 256 256 ty 262 3 N (i * 3) (n+1-i) dc ⟨vb,0,none⟩ 1 1 R0 262 xs Tryz.underlying256 hsz (by rw [hW];exact h1)
   (by rw [hxl];simp only [Nat.min_def];split <;> omega) (fun j u hj=>by rw [addr0,cell_row (by rw [hW];exact hv1)];simpa using hj) (by rw [hxl,hR0s];omega) h1x
 obtain ⟨R2,hR2⟩:∃ R2:Array Value,R2=(R1.toList.take ((i+1) * 3)++mid++R1.toList.drop ((i+1) * 3+mid.length)).toArray:=⟨_,rfl⟩
 obtain ⟨w2,hw2⟩:∃ w2,w2=w1.setRow N R1:=⟨_,rfl⟩
 have h2:w2.heap[N]? = some (.cells R1 262 (0,0)):=by rw [hw2];exact setRow_heap w1 N R0 _ _ (0,0) h1
 have hg2:w2.heap[g]? = some (.cells cur 262 (0,0)):=by rw [hw2,setRow_other _ _ _ _ (by omega)];exact hg1
 have hcpB:∀ W:World,W.heap=w2.heap→∀ ty dc sc,(Builtin.copy_ #[256,256] ty #[.slice (some ⟨N,(i+1) * 3,none⟩) (n-i) dc,.slice (some ⟨g,i * 3,none⟩) (n-i) sc]).run Tryz.prog W=.ok (goInt (Nat.min (n-i) (n-i))) (W.setRow N R2):=fun W hW ty dc sc=>by
  rw [hR2]
  exact run_copy_rowK (P:=Tryz.prog) W 256 256 ty 262 3 N ((i+1) * 3) (n-i) dc ⟨g,i * 3,none⟩ (n-i) sc R1 262 mid Tryz.underlying256 hsz (by rw [hW];exact h2)
   (by rw [hml];simp only [Nat.min_def];split <;> omega) (fun j u hj=>by
    rw [hmid,List.getElem?_drop,List.getElem?_take] at hj
    split at hj
    ·rw [Addr.add_lit,cell_row (by rw [hW];exact hg2)];simpa using hj
    ·cases hj) (by rw [hml,hR1s];omega) h1m
 have fin:∀ W:World,W.os=w.os→W.tape=w.tape→W.output=w.output→W.heap=(w2.setRow N R2).heap→w.grownBy W (some g)∧∃ cur':Array Value,W.heap[w.heap.size]? = some (.cells cur' 262 (0,0))∧cur'.size=G * 3∧cur'.toList.take ((n+1) * 3)=cur.toList.take (i * 3)++xs++(cur.toList.take (n * 3)).drop (i * 3):=by
  intro W q1 q2 q3 q4
  have hsz2:w.heap.size≤W.heap.size:=by rw [q4,hw2,hw1];simp
  refine ⟨⟨q1,q2,q3,hsz2,fun k hk _=>?_⟩,R2,?_,by rw [hR2];simp [hml,hR1s];omega,?_⟩
  ·rw [q4,setRow_other _ _ _ _ (by omega),hw2,setRow_other _ _ _ _ (by omega)];exact hold1 k hk
  ·rw [q4,←hN];exact setRow_heap w2 N R1 _ _ (0,0) h2
  ·have e0:R0.toList.take (i * 3)=cur.toList.take (i * 3):=by
    rw [hR0]
    simp only [Array.toList_append,List.append_assoc]
    rw [List.take_append_of_le_length (by rw [hol];exact Nat.le_refl _),List.take_of_length_le (by rw [hol];exact Nat.le_refl _)]
   rw [hR2,←hmid]
   have el:(R1.toList.take ((i+1) * 3))=cur.toList.take (i * 3)++xs:=by
    rw [hR1,e0]
    show ((cur.toList.take (i * 3)++xs)++_).take _=_
    have hl:(cur.toList.take (i * 3)++xs).length=(i+1) * 3:=by rw [List.length_append,hol,hxl];omega
    rw [←hl,List.take_left]
   rw [el]
   show ((cur.toList.take (i * 3)++xs++mid)++_).take _=_
   have hl:(cur.toList.take (i * 3)++xs++mid).length=(n+1) * 3:=by rw [List.length_append,List.length_append,hol,hxl,hml];omega
   rw [←hl,List.take_left]
 have hb4:¬(n=i):=by omega
 have hz3:((i:Int) == (n:Int))=false:=by simp;omega
 have hroom':decide ((n:Int)<(n:Int)+1)=true:=by simp;omega
 have hwrap:IntKind.i64.wrap ((i:Int)+1)=(i:Int)+1:=by rw [IntKind.wrap_i64];omega
 have hb1:(0:Int)≤(i:Int)+1:=by omega
 have hin:i≤n:=by omega
 have hin1:i≤n+1:=by omega
 have htn:((i:Int)+1).toNat=i+1:=by omega
 have hb3:(i:Int)≤(n:Int):=by omega
 have hGi:¬(G=i):=by omega
 have hGim:¬(G=i+1):=by omega
 have hW1:=hid' hw1
 have hW2:=hid' hw2
 have hNN:=hid' hN
 rw [hw1] at hcpA hw2
 rw [hw2] at hcpB fin
 clear hw1 hw2 hN hR2 hR1 hR0 hG hcur h1c hxl h1x hv hg h1 hv1 hg1 h2 hg2 hml h1m hmid hol hold hkk hik hR0s hR1s hold1 hi0 hz0 hzs hzb hsz
 have hfin:=hid' fin
 clear fin
 have hcpA':=hcpA ((w.alloc (.cells R0 262)).drew) rfl
 have hcpB':=hcpB ((((w.alloc (.cells R0 262)).drew).setRow N R1).drew) rfl
 clear hcpA hcpB
 go_enter Tryz.func151,Tryz.ntmps151
 go_wp2_with (at_builtin;refine Lib.wpList_append_run _ rfl _ _ _ _ rfl _ _ rfl rfl _ _ (hrz _) ?_)
 go_region_law (refine step_copy_runI rfl _ _ 256 256 rfl _ _ (by simp [Act.eval,Act.put]) (by simp [Act.eval,Act.put]) (hcpB' _ _ _) ?_)
 go_wp2
 go_ret
 exact ⟨by rw [←hNN.out];rfl,hfin.out _ rfl rfl rfl rfl⟩

theorem vInsert (v:Value) (vb B n i:Nat) (cs xs:List Value) (w:World) (hB:B≤w.heap.size) (hown:w.ownsRow B 262 3 v n cs) (hn:n≤4294967296) (hi:i≤n) (h1c:∀ u∈cs,u.oneCell'=true) (hxl:xs.length=3) (h1x:∀ u∈xs,u.oneCell'=true)
  (hv:w.heap[vb]? = some (.cells xs.toArray 262 (0,0))) (hvb:v.ownBlock≠some vb) :
  Calls Tryz.prog 151 #[v,.int .i64 i,.slice (some ⟨vb,0,none⟩) 1 1] w (InsRet w B 262 3 v (n+1) (cs.take (i * 3)++xs++cs.drop (i * 3))):=by
 have hcl:cs.length=n * 3:=hown.1
 by_cases hin:i=n
 ·subst hin
  obtain ⟨v',w',h1,h2,h3⟩:=vIns_end v vb B i cs xs w hB hown hn hxl h1x (fun j u hj=>by rw [addr0,cell_row hv];simpa using hj)
  refine h3.mono fun e W ⟨he,hW⟩=>?_
  subst hW
  refine ⟨v',he,?_,h2⟩
  rw [List.take_of_length_le (by omega),List.drop_of_length_le (by omega),List.append_nil]
  exact h1
 ·have hlt:i<n:=by omega
  rcases hown.2 with ⟨rfl,h0⟩|⟨g,cap,cur,rfl,hbg,hg,hnc,hcm,hcs,htake⟩
  ·subst h0;simp at hcl;omega
  ·have hvg:vb≠g:=fun h=>hvb (by subst h;rfl)
   have htk:cur.toList.take (n * 3)=cs:=htake
   by_cases hroom:n+1≤cap
   ·refine (vIns_shift g n cap i vb cur xs w hlt hroom (by unfold maxLen at hcm;omega) hvg hg hcs (by rw [htk];exact h1c) hxl h1x hv).mono fun e W ⟨he,hgr,cur',q1,q2,q3⟩=>?_
    have e1:cur.toList.take (i * 3)=cs.take (i * 3):=by rw [←htk,List.take_take,Nat.min_eq_left (by omega)]
    rw [htk,e1] at q3
    have hl3:(cs.take (i * 3)++xs++cs.drop (i * 3)).length=(n+1) * 3:=by simp [hxl,hcl];omega
    exact ⟨_,he,⟨hl3,.inr ⟨g,cap,cur',rfl,hbg,q1,hroom,hcm,by rw [q2,hcs],q3⟩⟩,hgr,.inl rfl⟩
   ·obtain rfl:cap=n:=by omega
    obtain ⟨G,g1,g2,h3⟩:=vIns_grow g cap i vb cur xs w hlt hn hg hcs (by rw [htk];exact h1c) hxl h1x hv
    refine h3.mono fun e W ⟨he,hgr,cur',q1,q2,q3⟩=>?_
    have e1:cur.toList.take (i * 3)=cs.take (i * 3):=by rw [←htk,List.take_take,Nat.min_eq_left (by omega)]
    rw [htk,e1] at q3
    have hl3:(cs.take (i * 3)++xs++cs.drop (i * 3)).length=(cap+1) * 3:=by simp [hxl,hcl];omega
    exact ⟨_,he,⟨hl3,.inr ⟨w.heap.size,G,cur',rfl,hB,q1,g1,g2,q2,q3⟩⟩,hgr,.inr (.inr ⟨w.heap.size,rfl,Nat.le_refl _⟩)⟩
open Go.RowKit Fl

def cmpZ (a b:Int):Int:=min (max (a-b) (-1)) 1
def BndK (ks:List SIt):Prop:=∀ x∈ks,0≤x.seq∧x.seq≤1099511627776
theorem zCmp_any (x:SIt) (n:Int) (w:World) (hx:0≤x.seq∧x.seq≤1099511627776) (hn:0≤n∧n≤1099511627776) :
  Calls Tryz.prog 208 #[.agg #[.int .i64 x.seq,.int .i64 x.code,.int .i64 x.num],.int .i64 n] w (Ret (.int .i64 (cmpZ x.seq n)) w):=by
 unfold cmpZ
 go_enter Tryz.func208,Tryz.ntmps208
 go_wp2_with fail
 go_ret
 exact ⟨rfl,by exact below_auto⟩
theorem own_cells {w:World} {B g n c:Nat} {its:List SIt} (h:w.ownsRow B 262 3 (.slice (some ⟨g,0,none⟩) n c) n (sCells its)) (hn:its.length=n) :
  ∀ i,i<its.length→w.cell? ⟨g,i * 3,none⟩=some (.int .i64 (its[i]?.getD default).seq)∧w.cell? ⟨g,i * 3+1,none⟩=some (.int .i64 (its[i]?.getD default).code)∧w.cell? ⟨g,i * 3+2,none⟩=some (.int .i64 (its[i]?.getD default).num):=by
 intro i hi
 have e:=it_some hi
 refine ⟨?_,?_,?_⟩
 ·have:=h.cellAt (i * 3) (by omega)
  rw [this]
  exact (flat_get SIt.enc_len e (j:=0) (by omega)).trans rfl
 ·have:=h.cellAt (i * 3+1) (by omega)
  rw [this]
  exact (flat_get SIt.enc_len e (j:=1) (by omega)).trans rfl
 ·have:=h.cellAt (i * 3+2) (by omega)
  rw [this]
  exact (flat_get SIt.enc_len e (j:=2) (by omega)).trans rfl
set_option maxRecDepth 100000 in
theorem zSearch_row (b c m:Nat) (n:Int) (its:List SIt) (w:World) (hn:0≤n∧n≤1099511627776) (hm:its.length=m) (hlen:m≤64) (hB:BndK its)
  (hb:b<w.heap.size) (hc:∀ i,i<its.length→w.cell? ⟨b,i * 3,none⟩=some (.int .i64 (its[i]?.getD default).seq)∧w.cell? ⟨b,i * 3+1,none⟩=some (.int .i64 (its[i]?.getD default).code)∧w.cell? ⟨b,i * 3+2,none⟩=some (.int .i64 (its[i]?.getD default).num))
  (hr:risK its) :
  Calls Tryz.prog 207 #[.slice (some ⟨b,0,none⟩) m c,.int .i64 n,.func (.func 208) #[] #[]] w (Ret (.tuple #[.int .i64 (plc its n),.bool (hasK its n)]) w):=by
 have HC:=hid hc;have HN:=hid hm;have HB:=hid hB
 have HM:=hid (show ∀ s t:Nat,s≤t→∀ x y,its[s]? = some x→its[t]? = some y→y.seq<n→x.seq<n from fun s t hst x y hx hy h=>by
  obtain ⟨h1,e1⟩:=List.getElem?_eq_some_iff.1 hx
  obtain ⟨h2,e2⟩:=List.getElem?_eq_some_iff.1 hy
  rcases Nat.eq_or_lt_of_le hst with rfl|h3
  ·rw [hx] at hy;cases hy;exact h
  ·have:=List.pairwise_iff_getElem.1 hr s t h1 h2 h3
   rw [e1,e2] at this;omega)
 clear hc hm hB hr
 go_enter Tryz.func207,Tryz.ntmps207
 go_wp2
 go_loopw [9,10] (fun i j wr=>∃ s t:Nat,s≤t∧t≤m∧i=.int .i64 s∧j=.int .i64 t∧Hid (∀ q:Nat,q<s→∀ x,its[q]? = some x→x.seq<n)∧Hid (∀ q:Nat,t≤q→∀ x,its[q]? = some x→n≤x.seq)∧Below w.heap.size w wr) (fun i j _=>(intOf j).toNat-(intOf i).toNat)
 case atStart=>exact ⟨0,m,Nat.zero_le _,Nat.le_refl _,rfl,rfl,hid fun q hq=>absurd hq (Nat.not_lt_zero _),hid fun q hq x hx=>by have:=(List.getElem?_eq_some_iff.1 hx).1;have:=HN.out;omega,Below.refl _ _⟩
 case round =>
  obtain ⟨s,t,hst,htn,rfl,rfl,HA,HZ,hbw⟩:=hrel
  have hsz:=hbw.size
  by_cases hlt:s<t
  ·have hlt':(s:Int)<(t:Int):=by omega
   have hh1:s≤(s+t) / 2:=by omega
   have hh2:(s+t) / 2<t:=by omega
   have hmt:(s+t) / 2<its.length:=by rw [HN.out];omega
   obtain ⟨c0,c1,c2⟩:=HC.out ((s+t) / 2) hmt
   have hkx:Hid (its[(s+t) / 2]? = some (its[(s+t) / 2]?.getD default)):=hid (by rw [List.getElem?_eq_getElem hmt];rfl)
   have d0:=(hbw.cell (p:=⟨b,_,none⟩) hb).trans c0
   have d1:=(hbw.cell (p:=⟨b,_,none⟩) hb).trans c1
   have d2:=(hbw.cell (p:=⟨b,_,none⟩) hb).trans c2
   clear c0 c1 c2
   generalize its[(s+t) / 2]?.getD default=x at *
   have HX:=hid (HB.out x (List.mem_of_getElem? hkx.out))
   have H:=fun W=>zCmp_any x n W HX.out hn
   have hbb:b<wr.heap.size:=by omega
   by_cases hc:x.seq<n
   ·have hr:cmpZ x.seq n = -1:=by unfold cmpZ;omega
    have hcH:=hid hc
    simp only [hr] at H
    clear hr hc
    go_wp2_with (go_at_call 208;with_reducible refine mQ (H _) ?_;intro w1 hb1 hc1 hf1 hz1;intros)
    go_roundw
    case rel =>
     refine ⟨(s+t) / 2+1,t,by omega,htn,by first|go_num|(congr 1;omega),rfl,hid fun q hq y hy=>?_,HZ,by exact below_auto⟩
     exact HM.out q ((s+t) / 2) (by omega) y x hy hkx.out hcH.out
    case measure=>simp [intOf];omega
   ·have hr:decide (cmpZ x.seq n<0)=false:=by unfold cmpZ;rw [decide_eq_false_iff_not];omega
    have hcH:=hid hc
    generalize cmpZ x.seq n=r at *
    clear hc
    go_wp2_with (go_at_call 208;with_reducible refine mQ (H _) ?_;intro w1 hb1 hc1 hf1 hz1;intros)
    go_roundw
    case rel =>
     refine ⟨s,(s+t) / 2,by omega,by omega,rfl,by first|go_num|(congr 1;omega),HA,hid fun q hq y hy=>?_,by exact below_auto⟩
     refine Int.not_lt.1 fun h=>absurd (HM.out ((s+t) / 2) q hq x y hkx.out hy h) (Int.not_lt.2 hcH.out)
    case measure=>simp [intOf];omega
  ·obtain rfl:s=t:=by omega
   have hp:plc its n=s:=by
    unfold plc
    by_cases hsn:s<its.length
    ·rw [List.findIdx_eq hsn]
     refine ⟨?_,fun j hj=>?_⟩
     ·have:=HZ.out s (Nat.le_refl _) _ (List.getElem?_eq_getElem hsn)
      simpa using this
     ·have:=HA.out j hj _ (List.getElem?_eq_getElem (by omega))
      simpa using this
    ·have hsn':s=its.length:=by have:=HN.out;omega
     rw [hsn']
     exact List.findIdx_eq_length.2 fun x hx=>by
      obtain ⟨j,hj⟩:=List.mem_iff_getElem?.1 hx
      have hjl:=(List.getElem?_eq_some_iff.1 hj).1
      have:=HA.out j (by omega) x hj
      simpa using this
   by_cases hsn:s<m
   ·have hsl:s<its.length:=by rw [HN.out];exact hsn
    have hsn':(s:Int)<(m:Int):=by omega
    obtain ⟨c0,c1,c2⟩:=HC.out s hsl
    have hkx:Hid (its[s]? = some (its[s]?.getD default)):=hid (by rw [List.getElem?_eq_getElem hsl];rfl)
    have d0:=(hbw.cell (p:=⟨b,_,none⟩) hb).trans c0
    have d1:=(hbw.cell (p:=⟨b,_,none⟩) hb).trans c1
    have d2:=(hbw.cell (p:=⟨b,_,none⟩) hb).trans c2
    clear c0 c1 c2
    have hq:hasK its n=decide ((its[s]?.getD default).seq=n):=by
     unfold hasK;rw [hp,List.getElem?_eq_getElem hsl];rfl
    generalize its[s]?.getD default=x at *
    have hbb:b<wr.heap.size:=by omega
    have HX:=hid (HB.out x (List.mem_of_getElem? hkx.out))
    have H:=fun W=>zCmp_any x n W HX.out hn
    have he:decide (x.seq=n)=(cmpZ x.seq n == 0):=by
     rw [Bool.eq_iff_iff,decide_eq_true_eq,beq_iff_eq];unfold cmpZ;omega
    rw [he] at hq
    have HP:=hid hp;have HQ:=hid hq
    clear hp hq he
    generalize cmpZ x.seq n=r at *
    go_wp2_with (go_at_call 208;with_reducible refine mQ (H _) ?_;intro w1 hb1 hc1 hf1 hz1;intros)
    go_ret2
    exact ⟨by rw [HP.out,HQ.out];rfl,by exact below_auto⟩
   ·have hsn':decide ((s:Int)<(m:Int))=false:=by simp;omega
    have hq:hasK its n=false:=by
     unfold hasK;rw [hp,List.getElem?_eq_none (by have:=HN.out;omega)]
    have HP:=hid hp;have HQ:=hid hq
    clear hp hq
    go_wp2
    go_ret2
    exact ⟨by rw [HP.out,HQ.out];rfl,by exact below_auto⟩
theorem zSearch_nil (n:Int) (w:World) :
  Calls Tryz.prog 207 #[.slice none 0 0,.int .i64 n,.func (.func 208) #[] #[]] w (Ret (.tuple #[.int .i64 0,.bool false]) w):=by
 go_enter Tryz.func207,Tryz.ntmps207
 go_wp2
 go_loopw [9,10] (fun i j wr=>i=.int .i64 0∧j=.int .i64 0∧Below w.heap.size w wr) (fun _ _ _=>0)
 case atStart=>exact ⟨rfl,rfl,Below.refl _ _⟩
 case round =>
  obtain ⟨rfl,rfl,hbw⟩:=hrel
  go_wp2
  go_ret2
  exact ⟨rfl,by exact below_auto⟩
theorem zSearch_any {w:World} {B:Nat} {v:Value} {its:List SIt} (n:Int) (hn:0≤n∧n≤1099511627776) (hown:w.ownsRow B 262 3 v its.length (sCells its)) (hl:its.length≤64) (hB:BndK its) (hr:risK its) :
  Calls Tryz.prog 207 #[v,.int .i64 n,.func (.func 208) #[] #[]] w (Ret (.tuple #[.int .i64 (plc its n),.bool (hasK its n)]) w):=by
 have hown':=hown
 rcases hown.2 with ⟨rfl,h0⟩|⟨g,cap,cur,rfl,hbg,hg,hnc,hcm,hcs,htake⟩
 ·have:its=[]:=by
   have:=sCells_len its
   rw [h0] at this;simp at this
   exact List.eq_nil_of_length_eq_zero (by omega)
  subst this
  exact zSearch_nil n w
 ·exact zSearch_row g cap its.length n its w hn rfl hl hB (Array.getElem?_eq_some_iff.1 hg).1 (own_cells hown' rfl) hr
theorem zFind_any {w:World} {B p:Nat} {hi:Int} {a:Option Addr} {c:Nat} {ks:List SIt} (n:Int) (hn:0≤n∧n≤1099511627776) (hbx:w.heap[p]? = some (.cells #[.int .i64 hi,.slice a ks.length c] 258 (0,0))) (hown:w.ownsRow B 262 3 (.slice a ks.length c) ks.length (sCells ks)) (hl:ks.length≤64) (hB:BndK ks) (hr:risK ks) :
  Calls Tryz.prog 150 #[.pointer (some ⟨p,0,none⟩),.int .i64 n] w (Ret (.tuple #[.int .i64 (plc ks n),.bool (hasK ks n)]) w):=by
 have H:=zSearch_any n hn hown hl hB hr
 have c1:=cell_row hbx 1
 simp at c1
 have hp:=(Array.getElem?_eq_some_iff.1 hbx).1
 generalize plc ks n=i at *
 generalize hasK ks n=q at *
 generalize ks.length=m at *
 clear hbx hown hB hr
 go_enter Tryz.func150,Tryz.ntmps150
 go_wp2_with (go_at_call 207;with_reducible refine mQ (H) ?_;intro w1 hb1 hc1 hf1 hz1;intros)
 go_ret2
 exact ⟨rfl,by exact below_auto⟩
theorem number_any (n:Int) (w:World):Calls Tryz.prog 149 #[.int .i64 n] w (Ret (.bool (okN n)) w):=by
 by_cases h1:1≤n
 ·by_cases h2:n≤1099511627776
  ·have e:okN n=true:=okN_iff.2 ⟨h1,h2⟩
   rw [e];clear e
   go_enter Tryz.func149,Tryz.ntmps149
   go_wp2_with fail
   go_ret
   exact ⟨rfl,by exact below_auto⟩
  ·have e:okN n=false:=by rw [Bool.eq_false_iff];exact fun h=>h2 (okN_iff.1 h).2
   rw [e];clear e
   go_enter Tryz.func149,Tryz.ntmps149
   go_wp2_with fail
   go_ret
   exact ⟨rfl,by exact below_auto⟩
 ·have e:okN n=false:=by rw [Bool.eq_false_iff];exact fun h=>h1 (okN_iff.1 h).1
  rw [e];clear e
  go_enter Tryz.func149,Tryz.ntmps149
  go_wp2_with fail
  go_ret
  exact ⟨rfl,by exact below_auto⟩

structure CapAt (w:World) (B P:Nat) (m:Int):Prop where
 lb:B<w.heap.size
 lp:P<w.heap.size
 cb:w.cell? ⟨B,0,none⟩=some (.pointer (some ⟨P,0,none⟩))
 cp:w.cell? ⟨P,0,none⟩=some (.int .i64 (m+8))
 bd:-8≤m∧m≤1099511627776
theorem CapAt.below {w w':World} {B P:Nat} {m:Int} (h:CapAt w B P m) (hb:Below w.heap.size w w'):CapAt w' B P m :=
 ⟨Nat.lt_of_lt_of_le h.lb hb.size,Nat.lt_of_lt_of_le h.lp hb.size,(hb.cell (p:=⟨B,0,none⟩) h.lb).trans h.cb,(hb.cell (p:=⟨P,0,none⟩) h.lp).trans h.cp,h.bd⟩
theorem CapAt.grown {w w':World} {B P g:Nat} {m:Int} (h:CapAt w B P m) (hg:w.grownBy w' (some g)) (hB:B≠g) (hP:P≠g):CapAt w' B P m :=
 ⟨Nat.lt_of_lt_of_le h.lb hg.size,Nat.lt_of_lt_of_le h.lp hg.size,hg.cell h.cb (by simpa using hB),hg.cell h.cp (by simpa using hP),h.bd⟩
theorem zDrop1_any (x:SIt) (B P:Nat) (m:Int) (w:World) (c:CapAt w B P m) :
  Calls Tryz.prog 153 #[.agg #[.int .i64 x.seq,.int .i64 x.code,.int .i64 x.num],.pointer (some ⟨B,0,none⟩)] w (Ret (.bool (decide (x.seq≤m))) w):=by
 obtain ⟨lb,lp,cb,cp,bd⟩:=c
 obtain ⟨h,hh⟩:∃ h,h=m+8:=⟨_,rfl⟩
 rw [←hh] at cp
 obtain rfl:m=h-8:=by omega
 clear hh
 go_enter Tryz.func153,Tryz.ntmps153
 go_upto_region 1 with fail
 (refine wp_region_ext (by kernel_rfl) (by kernel_rfl) ?_;(repeat (go_big_quiet_step (first|fail)));refine mX ?_;intro w2 hb2 hc2 hf2 hz2;intros)
 go_wp2_with fail
 go_ret
 exact ⟨rfl,by exact below_auto⟩
theorem zIdx_row (b c n B P:Nat) (m:Int) (its:List SIt) (w:World) (hn:its.length=n) (hlen:n≤64) (hm:CapAt w B P m)
  (hb:b<w.heap.size) (hc:∀ i,i<its.length→w.cell? ⟨b,i * 3,none⟩=some (.int .i64 (its[i]?.getD default).seq)∧w.cell? ⟨b,i * 3+1,none⟩=some (.int .i64 (its[i]?.getD default).code)∧w.cell? ⟨b,i * 3+2,none⟩=some (.int .i64 (its[i]?.getD default).num)) :
  Calls Tryz.prog 211 #[.slice (some ⟨b,0,none⟩) n c,.func (.func 153) #[] #[.pointer (some ⟨B,0,none⟩)]] w (Ret (.int .i64 (idxB (fun x=>decide (x.seq≤m)) its)) w):=by
 have HC:=hid hc;have HN:=hid hn;have HM:=hid hm
 clear hc hn hm
 go_enter Tryz.func211,Tryz.ntmps211
 go_wp2
 go_loopw [8] (fun i wr=>∃ k:Nat,k≤n∧i=.int .i64 k∧Hid (∀ j:Nat,j<k→∀ y,its[j]? = some y→decide (y.seq≤m)=false)∧Below w.heap.size w wr) (fun i _=>n-(intOf i).toNat)
 case atStart=>exact ⟨0,Nat.zero_le _,rfl,hid fun j hj=>absurd hj (Nat.not_lt_zero _),Below.refl _ _⟩
 case round =>
  obtain ⟨k,hk,rfl,HR,hbw⟩:=hrel
  have hsz:=hbw.size
  by_cases hlt:k<n
  ·obtain ⟨c0,c1,c2⟩:=HC.out k (by rw [HN.out];exact hlt)
   have hlt':(k:Int)<(n:Int):=by omega
   have hkx:=hid (it_some (ks:=its) (k:=k) (by rw [HN.out];exact hlt))
   have d0:=(hbw.cell (p:=⟨b,_,none⟩) hb).trans c0
   have d1:=(hbw.cell (p:=⟨b,_,none⟩) hb).trans c1
   have d2:=(hbw.cell (p:=⟨b,_,none⟩) hb).trans c2
   have dm:=HM.out.below hbw
   clear c0 c1 c2
   generalize its[k]?.getD default=x at *
   have H:=fun W (hb:Below wr.heap.size wr W)=>zDrop1_any x B P m W (dm.below hb)
   clear dm
   cases hp:decide (x.seq≤m)
   ·rw [hp] at H
    have HP:=hid hp
    clear hp
    go_wp2_with (go_at_call 153;with_reducible refine mQ (H _ (by exact below_auto)) ?_;intro w1 hb1 hc1 hf1 hz1;intros)
    go_roundw
    case rel=>exact ⟨k+1,by omega,by go_num,hid fun j hj y hy=>by
      by_cases h:j<k
      ·exact HR.out j h y hy
      ·obtain rfl:j=k:=by omega
       rw [hkx.out] at hy;cases hy;exact HP.out,by exact below_auto⟩
    case measure=>simp [intOf];omega
   ·rw [hp] at H
    have HP:=hid hp
    clear hp
    go_wp2_with (go_at_call 153;with_reducible refine mQ (H _ (by exact below_auto)) ?_;intro w1 hb1 hc1 hf1 hz1;intros)
    go_ret
    exact ⟨ret_int (by rw [idxB_some (p:=fun x:SIt=>decide (x.seq≤m)) hkx.out HP.out HR.out]),by exact below_auto⟩
  ·obtain rfl:k=n:=by omega
   go_wp2
   go_ret
   refine ⟨ret_int ?_,by exact below_auto⟩
   rw [idxB_none]
   intro i x hx
   refine HR.out i ?_ x hx
   have:=(List.getElem?_eq_some_iff.1 hx).1
   have:=HN.out
   omega

theorem flat_take_it (its:List SIt) (k:Nat):(sCells its).take (k * 3)=sCells (its.take k):=flat_take SIt.enc_len its k
theorem keepK_snoc (m:Int) {its:List SIt} {t:Nat} {x:SIt} (hx:its[t]? = some x):keepK m (its.take (t+1))=keepK m (its.take t)++(if decide (x.seq≤m)=true then [] else [x]):=by
 unfold keepK
 rw [List.take_add_one,hx,List.filter_append]
 congr 1
 by_cases h:x.seq≤m <;> simp [h]

structure DelMid (w wr:World) (g:Nat) (cur:Array Value) (m:Int) (its:List SIt) (i t:Nat):Prop where
 grown:w.grownBy wr (some g)
 at':i=(keepK m (its.take t)).length
 lt:i<t
 row:∃ cur':Array Value,wr.heap[g]? = some (.cells cur' 262 (0,0))∧cur'.size=cur.size∧cur'.toList.take (i * 3)=sCells (keepK m (its.take t))∧cur'.toList.drop (t * 3)=cur.toList.drop (t * 3)

theorem DelMid.skip {w wr W:World} {g:Nat} {cur:Array Value} {m:Int} {its:List SIt} {i t:Nat} {x:SIt} (h:DelMid w wr g cur m its i t) (hx:its[t]? = some x) (hp:decide (x.seq≤m)=true) (hb:Below wr.heap.size wr W):DelMid w W g cur m its i (t+1):=by
 obtain ⟨cur',q1,q2,q3,q4⟩:=h.row
 have e:keepK m (its.take (t+1))=keepK m (its.take t):=by rw [keepK_snoc m hx,if_pos hp,List.append_nil]
 refine ⟨grown_trans h.grown (grown_row (grown_of_below hb)),by rw [e];exact h.at',by have:=h.lt;omega,cur',(hb.block g (Array.getElem?_eq_some_iff.1 q1).1).trans q1,q2,by rw [e];exact q3,?_⟩
 have:=congrArg (List.drop 3) q4
 rw [List.drop_drop,List.drop_drop] at this
 rw [show (t+1) * 3=t * 3+3 by omega]
 exact this

theorem DelMid.keep {w wr W:World} {g:Nat} {cur:Array Value} {m:Int} {its:List SIt} {i t:Nat} {x:SIt} (h:DelMid w wr g cur m its i t) (hx:its[t]? = some x) (hp:decide (x.seq≤m)=false) (hb:Below wr.heap.size wr W) (hs:t * 3+3≤cur.size) :
  DelMid w (((W.setCell ⟨g,i * 3,none⟩ (.int .i64 x.seq)).setCell ⟨g,i * 3+1,none⟩ (.int .i64 x.code)).setCell ⟨g,i * 3+2,none⟩ (.int .i64 x.num)) g cur m its (i+1) (t+1):=by
 obtain ⟨cur',q1,q2,q3,q4⟩:=h.row
 have hlt:=h.lt
 have e:keepK m (its.take (t+1))=keepK m (its.take t)++[x]:=by rw [keepK_snoc m hx,if_neg (by simp [hp])]
 have g1:W.heap[g]? = some (.cells cur' 262 (0,0)):=(hb.block g (Array.getElem?_eq_some_iff.1 q1).1).trans q1
 have e1:=setCell_eq_setRow W g (i * 3) cur' _ _ (.int .i64 x.seq) g1
 have g2:=setRow_heap W g cur' (cur'.setIfInBounds (i * 3) (.int .i64 x.seq)) _ _ g1
 have e2:=setCell_eq_setRow (W.setRow g (cur'.setIfInBounds (i * 3) (.int .i64 x.seq))) g (i * 3+1) _ _ _ (.int .i64 x.code) g2
 have g3:=setRow_heap (W.setRow g (cur'.setIfInBounds (i * 3) (.int .i64 x.seq))) g _ ((cur'.setIfInBounds (i * 3) (.int .i64 x.seq)).setIfInBounds (i * 3+1) (.int .i64 x.code)) _ _ g2
 have e3:=setCell_eq_setRow ((W.setRow g (cur'.setIfInBounds (i * 3) (.int .i64 x.seq))).setRow g ((cur'.setIfInBounds (i * 3) (.int .i64 x.seq)).setIfInBounds (i * 3+1) (.int .i64 x.code))) g (i * 3+2) _ _ _ (.int .i64 x.num) g3
 rw [e1,e2,e3]
 have g4:=setRow_heap ((W.setRow g (cur'.setIfInBounds (i * 3) (.int .i64 x.seq))).setRow g ((cur'.setIfInBounds (i * 3) (.int .i64 x.seq)).setIfInBounds (i * 3+1) (.int .i64 x.code))) g _ (((cur'.setIfInBounds (i * 3) (.int .i64 x.seq)).setIfInBounds (i * 3+1) (.int .i64 x.code)).setIfInBounds (i * 3+2) (.int .i64 x.num)) _ _ g3
 refine ⟨grown_trans h.grown (grown_trans (grown_row (grown_of_below hb)) (grown_trans (grown_trans (grownBy_setRow _ _ _) (grownBy_setRow _ _ _)) (grownBy_setRow _ _ _))),by rw [e];simp [←h.at'],by omega,_,g4,by simpa using q2,?_,?_⟩
 ·rw [e]
  unfold sCells at *
  rw [List.flatMap_append,←q3]
  have hl:i * 3+2<cur'.toList.length:=by rw [Array.length_toList,q2];omega
  simp only [Array.toList_setIfInBounds]
  apply List.ext_getElem?
  intro j
  rw [List.getElem?_take,List.getElem?_append,List.length_take,Nat.min_eq_left (by omega)]
  by_cases hj:j<i * 3
  ·rw [if_pos (by omega),if_pos hj,List.getElem?_set_ne (by omega),List.getElem?_set_ne (by omega),List.getElem?_set_ne (by omega),List.getElem?_take,if_pos hj]
  ·rw [if_neg hj]
   by_cases hj0:j=i * 3
   ·subst hj0
    rw [if_pos (by omega),List.getElem?_set_ne (by omega),List.getElem?_set_ne (by omega),List.getElem?_set_self (by omega)]
    simp [SIt.enc]
   ·by_cases hj1:j=i * 3+1
    ·subst hj1
     rw [if_pos (by omega),List.getElem?_set_ne (by omega),List.getElem?_set_self (by simp only [List.length_set];omega)]
     simp [SIt.enc]
    ·by_cases hj2:j=i * 3+2
     ·subst hj2
      rw [if_pos (by omega),List.getElem?_set_self (by simp only [List.length_set];omega)]
      simp [SIt.enc]
     ·rw [if_neg (by omega),List.getElem?_eq_none (by simp [SIt.enc];omega)]
 ·have:=congrArg (List.drop 3) q4
  rw [List.drop_drop,List.drop_drop] at this
  rw [show (t+1) * 3=t * 3+3 by omega]
  simp only [Array.toList_setIfInBounds]
  rw [List.drop_set_of_lt (by omega),List.drop_set_of_lt (by omega),List.drop_set_of_lt (by omega)]
  exact this

set_option maxRecDepth 100000 in
theorem zDelete_row (g c n B P:Nat) (m:Int) (its:List SIt) (cur:Array Value) (w:World) (hn:its.length=n) (hlen:n≤64) (hBg:B≠g) (hPg:P≠g) (hm:CapAt w B P m) (hnc:n≤c) (hcm:c≤9223372036854775807)
  (hg:w.heap[g]? = some (.cells cur 262 (0,0))) (hcs:cur.size=c * 3) (htake:cur.toList.take (n * 3)=sCells its) :
  Calls Tryz.prog 152 #[.slice (some ⟨g,0,none⟩) n c,.func (.func 153) #[] #[.pointer (some ⟨B,0,none⟩)]] w fun e W=>e=.returned (.slice (some ⟨g,0,none⟩) (keepK m its).length c)∧w.grownBy W (some g) ∧
   ∃ cur':Array Value,W.heap[g]? = some (.cells cur' 262 (0,0))∧cur'.size=cur.size∧cur'.toList.take ((keepK m its).length * 3)=sCells (keepK m its):=by
 have hgl:=(Array.getElem?_eq_some_iff.1 hg).1
 have hrow0:w.ownsRow 0 262 3 (.slice (some ⟨g,0,none⟩) n c) n (sCells its):=⟨by rw [sCells_len,hn],.inr ⟨g,c,cur,rfl,Nat.zero_le _,hg,hnc,by unfold maxLen;omega,hcs,htake⟩⟩
 have H:=zIdx_row g c n B P m its w hn hlen hm hgl (own_cells hrow0 hn)
 cases hi:its.findIdx? fun x=>decide (x.seq≤m) with
 | none =>
  have e:idxB (fun x:SIt=>decide (x.seq≤m)) its = -1:=by unfold idxB;rw [hi]
  rw [e] at H
  have hk:keepK m its=its:=by
   unfold keepK
   rw [List.filter_eq_self]
   intro x hx
   have:=List.findIdx?_eq_none_iff.1 hi x hx
   simp at this ⊢;omega
  rw [hk,hn]
  have fin:∀ W,Below w.heap.size w W→w.grownBy W (some g)∧∃ cur':Array Value,W.heap[g]? = some (.cells cur' 262 (0,0))∧cur'.size=cur.size∧cur'.toList.take (n * 3)=sCells its:=fun W hb =>
   ⟨grown_row (grown_of_below hb),cur,(hb.block g hgl).trans hg,rfl,htake⟩
  have hfin:=hid fin
  clear fin hk hi e htake hcs hg hm hn hrow0
  go_enter Tryz.func152,Tryz.ntmps152
  go_wp2_with (go_at_call 211;with_reducible refine mQ (H) ?_;intro w1 hb1 hc1 hf1 hz1;intros)
  go_ret
  exact ⟨rfl,hfin.out _ (by exact below_auto)⟩
 | some k =>
  obtain ⟨hkl,hkp,hkf⟩:=List.findIdx?_eq_some_iff_getElem.1 hi
  have e:idxB (fun x:SIt=>decide (x.seq≤m)) its=k:=by unfold idxB;rw [hi]
  rw [e] at H
  have hkn:k<n:=by omega
  have hke:((k:Int) == -1)=false:=by first|(simp;done)|(simp;omega)
  have hmid:∀ W,Below w.heap.size w W→DelMid w W g cur m its k (k+1):=fun W hb=>by
   have ek:keepK m (its.take k)=its.take k:=by
    unfold keepK
    rw [List.filter_eq_self]
    intro x hx
    obtain ⟨j,hj,rfl⟩:=List.getElem_of_mem hx
    have hj':j<k:=by simpa using (Nat.lt_of_lt_of_le hj (by simp;omega))
    have:=hkf j hj'
    simpa using this
   have ek1:keepK m (its.take (k+1))=its.take k:=by rw [keepK_snoc m (List.getElem?_eq_getElem hkl),ek,if_pos hkp,List.append_nil]
   refine ⟨grown_row (grown_of_below hb),by have:=congrArg List.length ek1;rw [List.length_take] at this;omega,by omega,cur,(hb.block g hgl).trans hg,rfl,?_,rfl⟩
   rw [ek1,←flat_take_it,←htake,List.take_take,Nat.min_eq_left (by omega)]
  have Hmid:=hid hmid
  have HT:=hid htake;have HG:=hid hg;have HN:=hid hn;have HS:=hid hcs;have HM:=hid hm
  clear hmid hi e hkp hkf htake hg hn hrow0 hm hkl
  go_enter Tryz.func152,Tryz.ntmps152
  go_wp2_with (go_at_call 211;with_reducible refine mQ (H) ?_;intro w1 hb1 hc1 hf1 hz1;intros)
  go_loopw [5,6] (fun iv tv wr=>∃ i t:Nat,iv=.int .i64 i∧tv=.int .i64 t∧t≤n∧DelMid w wr g cur m its i t) (fun _ tv _=>n-(intOf tv).toNat)
  case atStart=>exact ⟨k,k+1,rfl,by first|rfl|go_num,by omega,Hmid.out _ (by exact below_auto)⟩
  case round =>
   obtain ⟨i,t,rfl,rfl,htn,hd⟩:=hrel
   obtain ⟨cur',q1,q2,q3,q4⟩:=hd.row
   have hit:=hd.lt
   have hgr:=hd.grown
   have hsz:=hgr.size
   have hgw:=(Array.getElem?_eq_some_iff.1 q1).1
   have cB:=HM.out.grown hgr hBg hPg
   by_cases hlt:t<n
   ·have htl:t<its.length:=by rw [HN.out];exact hlt
    have hlt':(t:Int)<(n:Int):=by omega
    have hkx:=hid (it_some htl)
    have cc:∀ j,j<3→wr.cell? ⟨g,t * 3+j,none⟩=(sCells its)[t * 3+j]?:=fun j hj=>by
     rw [cell_row q1,←HT.out,List.getElem?_take,if_pos (by omega)]
     have h1:(cur'.toList.drop (t * 3))[j]? = (cur.toList.drop (t * 3))[j]?:=by rw [q4]
     rw [List.getElem?_drop,List.getElem?_drop] at h1
     simpa using h1
    have d0:=(cc 0 (by omega)).trans (flat_get SIt.enc_len hkx.out (j:=0) (by omega))
    have d1:=(cc 1 (by omega)).trans (flat_get SIt.enc_len hkx.out (j:=1) (by omega))
    have d2:=(cc 2 (by omega)).trans (flat_get SIt.enc_len hkx.out (j:=2) (by omega))
    simp only [Nat.add_zero,SIt.enc,List.getElem?_cons_zero,List.getElem?_cons_succ] at d0 d1 d2
    clear cc
    generalize its[t]?.getD default=x at *
    have s0:(wr.cell? ⟨g,i * 3,none⟩).isSome=true:=by rw [cell_row q1,Array.getElem?_eq_getElem (by omega)];rfl
    have s1:(wr.cell? ⟨g,i * 3+1,none⟩).isSome=true:=by rw [cell_row q1,Array.getElem?_eq_getElem (by omega)];rfl
    have s2:(wr.cell? ⟨g,i * 3+2,none⟩).isSome=true:=by rw [cell_row q1,Array.getElem?_eq_getElem (by omega)];rfl
    obtain ⟨z0,s0'⟩:=Option.isSome_iff_exists.1 s0
    obtain ⟨z1,s1'⟩:=Option.isSome_iff_exists.1 s1
    obtain ⟨z2,s2'⟩:=Option.isSome_iff_exists.1 s2
    have fz:∀ j,wr.frozen? ⟨g,j,none⟩=false:=fun j=>by simp [World.frozen?,q1]
    have fz0:=fz (i * 3);have fz1:=fz (i * 3+1);have fz2:=fz (i * 3+2)
    have hti:(i:Int)<(n:Int):=by omega
    have hskip:=hid fun W hb hp=>hd.skip (W:=W) hkx.out hp hb
    have hkeep:=hid fun W hb hp=>hd.keep (W:=W) hkx.out hp hb (by omega)
    have HH:=fun W (hb:Below wr.heap.size wr W)=>zDrop1_any x B P m W (cB.below hb)
    clear fz s0 s1 s2 q1 q3 q4 hd cB
    cases hp:decide (x.seq≤m)
    ·rw [hp] at HH
     have HP:=hid hp
     clear hp
     go_wp2_with (go_at_call 153;with_reducible refine mQ (HH _ (by exact below_auto)) ?_;intro w1 hb1 hc1 hf1 hz1;intros)
     go_roundw
     case rel=>exact ⟨i+1,t+1,by go_num,by go_num,by omega,hkeep.out _ (by exact below_auto) HP.out⟩
     case measure=>simp [intOf];omega
    ·rw [hp] at HH
     have HP:=hid hp
     clear hp
     go_wp2_with (go_at_call 153;with_reducible refine mQ (HH _ (by exact below_auto)) ?_;intro w1 hb1 hc1 hf1 hz1;intros)
     go_roundw
     case rel=>exact ⟨i,t+1,rfl,by go_num,by omega,hskip.out _ (by exact below_auto) HP.out⟩
     case measure=>simp [intOf];omega
   ·obtain rfl:t=n:=by omega
    have hik:i=(keepK m its).length:=by rw [hd.at',List.take_of_length_le (by rw [HN.out];exact Nat.le_refl _)]
    have hclr:=run_clear_row (P:=Tryz.prog) wr 256 262 (.agg #[.int .i64 0,.int .i64 0,.int .i64 0]) 3 Tryz.underlying256 Tryz.zeroValue262 rfl (by intro u hu;simp [Value.cells] at hu;rw [hu];rfl) g (i * 3) (t-i) (c-i) cur' _ q1 (by omega) (by omega)
    obtain ⟨R,hR⟩:∃ R:Array Value,R=(cur'.toList.take (i * 3)++(Builtin.zeroCells (Value.agg #[.int .i64 0,.int .i64 0,.int .i64 0]).cells (t-i)).toList++cur'.toList.drop (i * 3+(t-i) * 3)).toArray:=⟨_,rfl⟩
    rw [←hR] at hclr
    have fin:w.grownBy (wr.setRow g R) (some g)∧∃ cur'':Array Value,(wr.setRow g R).heap[g]? = some (.cells cur'' 262 (0,0))∧cur''.size=cur.size∧cur''.toList.take ((keepK m its).length * 3)=sCells (keepK m its):=by
     have hzl:(Builtin.zeroCells (Value.agg #[.int .i64 0,.int .i64 0,.int .i64 0]).cells (t-i)).toList.length=(t-i) * 3:=by rw [Array.length_toList,size_zeroCells];rfl
     refine ⟨grown_trans hgr (grownBy_setRow _ _ _),R,setRow_heap wr g cur' _ _ _ q1,?_,?_⟩
     ·rw [hR];simp only [List.size_toArray,List.length_append,List.length_take,List.length_drop,hzl,Array.length_toList,q2];omega
     ·rw [hR,←hik]
      simp only [List.append_assoc]
      have hl:(cur'.toList.take (i * 3)).length=i * 3:=by rw [List.length_take,Array.length_toList,q2];omega
      rw [List.take_append_of_le_length (by omega),List.take_take,Nat.min_self,q3,List.take_of_length_le (by rw [HN.out];exact Nat.le_refl _)]
    have hfin:=hid fin
    have HIK:=hid hik
    have hci:¬(c=i):=by omega
    have hti:i≤t:=by omega
    clear fin hR q1 q2 q3 q4 hd hik cB
    go_wp2
    go_ret
    exact ⟨by rw [←HIK.out];rfl,hfin.out⟩
theorem own_slice {w:World} {B:Nat} {v:Value} {its:List SIt} (h:w.ownsRow B 262 3 v its.length (sCells its)):∃ va vc,v=.slice va its.length vc:=by
 rcases h.2 with ⟨rfl,h0⟩|⟨g,cap,cur,rfl,_⟩
 ·have:=sCells_len its
  rw [h0] at this;simp at this
  exact ⟨none,0,by rw [show its.length=0 by omega]⟩
 ·exact ⟨_,_,rfl⟩

theorem zIdx_nil (B:Nat) (m:Int) (w:World) :
  Calls Tryz.prog 211 #[.slice none 0 0,.func (.func 153) #[] #[.pointer (some ⟨B,0,none⟩)]] w (Ret (.int .i64 (-1)) w):=by
 go_enter Tryz.func211,Tryz.ntmps211
 go_wp2
 go_loopw [8] (fun i wr=>i=.int .i64 0∧Below w.heap.size w wr) (fun _ _=>0)
 case atStart=>exact ⟨rfl,Below.refl _ _⟩
 case round =>
  obtain ⟨rfl,hbw⟩:=hrel
  go_wp2
  go_ret
  exact ⟨rfl,by exact below_auto⟩

theorem zDelete_nil (B:Nat) (m:Int) (w:World) :
  Calls Tryz.prog 152 #[.slice none 0 0,.func (.func 153) #[] #[.pointer (some ⟨B,0,none⟩)]] w (Ret (.slice none 0 0) w):=by
 have H:=fun w=>zIdx_nil B m w
 go_enter Tryz.func152,Tryz.ntmps152
 go_wp2_with (go_at_call 211;with_reducible refine mQ (H _) ?_;intro w1 hb1 hc1 hf1 hz1;intros)
 go_ret
 exact ⟨rfl,by exact below_auto⟩

def DelRet (w:World) (B:Nat) (v:Value) (m:Int) (its:List SIt) (e:Ending) (W:World):Prop :=
 ∃ v',e=.returned v'∧v'.ownBlock=v.ownBlock∧W.ownsRow B 262 3 v' (keepK m its).length (sCells (keepK m its))∧w.grownBy W v.ownBlock

theorem zDelete_any {w:World} {B:Nat} {v:Value} {its:List SIt} (BX P:Nat) (m:Int) (hown:w.ownsRow B 262 3 v its.length (sCells its)) (hl:its.length≤64) (hBv:v.ownBlock≠some BX) (hPv:v.ownBlock≠some P) (hm:CapAt w BX P m) :
  Calls Tryz.prog 152 #[v,.func (.func 153) #[] #[.pointer (some ⟨BX,0,none⟩)]] w (DelRet w B v m its):=by
 rcases hown.2 with ⟨rfl,h0⟩|⟨g,cap,cur,rfl,hbg,hg,hnc,hcm,hcs,htake⟩
 ·have:=sCells_len its
  rw [h0] at this;simp at this
  obtain rfl:its=[]:=List.eq_nil_of_length_eq_zero (by omega)
  refine (zDelete_nil BX m w).mono ?_
  rintro e W ⟨rfl,hb⟩
  exact ⟨_,rfl,rfl,World.ownsRow_nil _ _ _ _,grown_row (grown_of_below hb)⟩
 ·refine (zDelete_row g cap its.length BX P m its cur w rfl hl (fun e=>hBv (by rw [e];rfl)) (fun e=>hPv (by rw [e];rfl)) hm hnc (by have:=hcm;unfold maxLen at this;omega) hg hcs htake).mono ?_
  rintro e W ⟨rfl,hgr,cur',hg',hcs',ht'⟩
  have:=keepK_len m its
  exact ⟨_,rfl,rfl,⟨sCells_len _,.inr ⟨g,cap,cur',rfl,hbg,hg',by omega,hcm,by omega,ht'⟩⟩,hgr⟩

open Go.RowKit Fl Go.Maps
open Go.Proofs.YtdeeoddacnealaaGreat.C (Fr Turn give give_old give_new row_kept)

theorem mapKeyed:Keyed Tryz.prog 2:=int_keyed Tryz.underlying2
def SL.sl (o:SL):Value:=.slice o.a o.d.ks.length o.c
structure SAt (B T mb:Nat) (os:List SL) (ow:Nat→Nat) (w:World):Prop where
 box:w.heap[T]? = some (.cells #[.map (some mb)] 251 (0,0))
 hT:ow T=1
 map:w.ownsMap (H:=Value) Tryz.prog 2 heldR mb os.length (datOf os)
 hm:ow mb=1
 ses:∀ o∈os,w.heap[o.p]? = some (.cells #[.int .i64 o.d.hi,.slice o.a o.d.ks.length o.c] 258 (0,0))∧ow o.p=2 * o.d.id.toNat
 row:∀ o∈os,w.ownsRow B 262 3 (.slice o.a o.d.ks.length o.c) o.d.ks.length (sCells o.d.ks)∧∀ g,o.sl.ownBlock=some g→ow g=2 * o.d.id.toNat+1
 low:∀ k,ow k≠0→B≤k∧k<w.heap.size
 up:risS (os.map SL.d)
 pos:∀ o∈os,1≤o.d.id∧o.d.id≤1099511627776
 few:os.length≤16
theorem box2 {w:World} {b:Nat} {x0 x1:Value} {T:TypeId} (h:w.heap[b]? = some (.cells #[x0,x1] T (0,0))):w.cell? ⟨b,0,none⟩=some x0∧w.cell? ⟨b,1,none⟩=some x1∧w.frozen? ⟨b,0,none⟩=false∧w.frozen? ⟨b,1,none⟩=false:=by
 refine ⟨?_,?_,by simp [World.frozen?,h],by simp [World.frozen?,h]⟩
 ·rw [cell_row h];rfl
 ·rw [cell_row h];rfl
theorem map_kept {w w':World} {b n:Nat} {D:DataW Value} (h:w.ownsMap Tryz.prog 2 heldR b n D) (hk:w'.heap[b]? = w.heap[b]?):w'.ownsMap Tryz.prog 2 heldR b n D:=by
 obtain ⟨es,clock,hb,r⟩:=h
 exact ⟨es,clock,hk.trans hb,r⟩
section
variable {B T mb : Nat} {os : List SL} {ow : Nat → Nat} {w w' : World}
theorem SAt.keep (h:SAt B T mb os ow w) (hs:w.heap.size≤w'.heap.size) (hk:∀ k,k<w.heap.size→ow k≠0→w'.heap[k]? = w.heap[k]?):SAt B T mb os ow w':=by
 have hl:=fun k hk=>(h.low k hk).2
 have z:∀ o∈os,2 * o.d.id.toNat≠0:=fun o ho=>by have:=h.pos o ho;omega
 have k1:=fun k (e:ow k≠0)=>hk k (hl k e) e
 exact ⟨(k1 T (by rw [h.hT];decide)).trans h.box,h.hT,map_kept h.map (k1 mb (by rw [h.hm];decide)),h.hm,fun o ho=>⟨(k1 o.p (by rw [(h.ses o ho).2];exact z o ho)).trans (h.ses o ho).1,(h.ses o ho).2⟩,
  fun o ho=>⟨row_kept (h.row o ho).1 fun g e=>k1 g (by rw [(h.row o ho).2 g e];omega),(h.row o ho).2⟩,fun k hk=>⟨(h.low k hk).1,Nat.lt_of_lt_of_le (hl k hk) hs⟩,h.up,h.pos,h.few⟩
theorem SAt.below (h:SAt B T mb os ow w) (hb:Below w.heap.size w w'):SAt B T mb os ow w':=h.keep hb.size fun k hk _=>hb.block k hk
theorem SAt.lt (h:SAt B T mb os ow w):B≤T∧T<w.heap.size:=h.low T (by rw [h.hT];decide)
theorem findL_some {id:Int} {o:SL} (h:findL os id=some o):o∈os∧o.d.id=id:=⟨List.mem_of_find?_eq_some h,by simpa using List.find?_some h⟩
theorem lit_wf {n:Int} (h:-9223372036854775808≤n∧n≤9223372036854775807):(Lit.int .i64 n).wf=true:=by
 simp only [Lit.wf,IntKind.min,IntKind.max,Bool.and_eq_true]
 exact ⟨decide_eq_true h.1,decide_eq_true h.2⟩
theorem look_s (h:SAt B T mb os ow w) {id:Int} (hs:-9223372036854775808≤id∧id≤9223372036854775807) :
  (Instr.lookup 249 (.map (some mb)) (.int .i64 id) false).run Tryz.prog w=.ok (match findL os id with|some o=>o.val|none=>.pointer none) w:=by
 obtain ⟨v,ps,hrun,hv⟩:=h.map.lookup mapKeyed Tryz.underlying249 (Tryz.zeroValue254 w) (zd:=.held (.pointer none)) (zp:=[]) rfl (keyOf_int_mk Tryz.underlying2 (lit_wf hs))
 rw [dat_at] at hv
 cases hf:findL os id with
 | none=>rw [hf] at hv;cases hv;exact hrun
 | some o=>rw [hf] at hv;cases hv;exact hrun
theorem len_s (h:SAt B T mb os ow w) (ty:TypeId):(Builtin.len_ #[249] ty #[.map (some mb)]).run Tryz.prog w=.ok (.int .i64 os.length) w:=by
 have:=h.map.len Tryz.underlying249 ty
 rwa [dat_size] at this
theorem ses_of (h:SAt B T mb os ow w) (hI:TInv (os.map SL.d)) {id:Int} {o:SL} (hf:findL os id=some o):w.heap[o.p]? = some (.cells #[.int .i64 o.d.hi,.slice o.a o.d.ks.length o.c] 258 (0,0))∧w.ownsRow B 262 3 (.slice o.a o.d.ks.length o.c) o.d.ks.length (sCells o.d.ks)∧o.d.ks.length≤8∧BndK o.d.ks∧risK o.d.ks∧1≤o.d.hi∧o.d.hi≤1099511627776:=by
 obtain ⟨hm,_⟩:=findL_some hf
 have hd:o.d∈os.map SL.d:=List.mem_map_of_mem hm
 obtain ⟨_,h2,h3,h4⟩:=hI.one _ hd
 exact ⟨(h.ses o hm).1,(h.row o hm).1,hI.len hd,fun x hx=>by have:=h4 x hx;omega,h3,h2⟩
end
theorem own_item {w:World} {B n c:Nat} {a:Option Addr} {ks:List SIt} (h:w.ownsRow B 262 3 (.slice a n c) n (sCells ks)) {i:Nat} {x:SIt} (hx:ks[i]? = some x) :
  ∃ g,a=some ⟨g,0,none⟩∧g<w.heap.size∧w.cell? ⟨g,i * 3,none⟩=some (.int .i64 x.seq)∧w.cell? ⟨g,i * 3+1,none⟩=some (.int .i64 x.code)∧w.cell? ⟨g,i * 3+2,none⟩=some (.int .i64 x.num):=by
 have hl:=(List.getElem?_eq_some_iff.1 hx).1
 have hn:ks.length=n:=by have h1:=h.1;rw [sCells_len] at h1;omega
 rcases h.2 with ⟨h1,h2⟩|⟨g,cap,cur,h1,hb,hg,_⟩
 ·cases h1;omega
 ·injection h1 with h2 h3 h4
  subst h2
  have:=own_cells h hn i hl
  rw [show ks[i]?.getD default=x by rw [hx];rfl] at this
  exact ⟨g,rfl,(Array.getElem?_eq_some_iff.1 hg).1,this⟩
set_option maxHeartbeats 1000000 in
set_option maxRecDepth 100000 in
theorem look_any {B T mb:Nat} {os:List SL} {ow:Nat→Nat} {w:World} (h:SAt B T mb os ow w) (hI:TInv (os.map SL.d)) (id seq:Int) (hb:-9223372036854775808≤id∧id≤9223372036854775807) :
  Calls Tryz.prog 74 #[.pointer (some ⟨T,0,none⟩),.int .i64 id,.int .i64 seq] w (Ret (.tuple #[.agg #[.int .i64 (lookT (os.map SL.d) id seq).2.1,.int .i64 (lookT (os.map SL.d) id seq).2.2],.int .i64 (lookT (os.map SL.d) id seq).1]) w):=by
 obtain ⟨r,hr⟩:∃ r,r=lookT (os.map SL.d) id seq:=⟨_,rfl⟩
 rw [←hr]
 unfold lookT at hr
 have LK:=hid fun W (hb':Below w.heap.size w W)=>look_s (h.below hb') hb
 have LN:=hid fun W (hb':Below w.heap.size w W)=>len_s (h.below hb')
 have CB:=hid fun W (hb':Below w.heap.size w W)=>cell_row (h.below hb').box 0
 have SO:=hid fun W (hb':Below w.heap.size w W) {o:SL} (hf:findL os id=some o)=>ses_of (h.below hb') hI hf
 have hTw:=h.lt.2
 have N1:=fun W=>number_any id W
 have N2:=fun W=>number_any seq W
 rw [←findL_d,List.length_map] at hr
 have h16:=h.few
 have HSQ:=hid (show okN seq=true→0≤seq∧seq≤1099511627776 from fun h=>by have:=okN_iff.1 h;omega)
 generalize okN id=b1 at *
 generalize okN seq=b2 at *
 clear h hI
 go_enter Tryz.func74,Tryz.ntmps74
 go_upto_region 1 with fail
 generalize hW1:World.alloc _ _=w1
 have hb1:Below w.heap.size w w1:=by rw [←hW1];exact below_auto
 have q1:w1.heap[w.heap.size]? = some (.cells #[.int .i64 0,.int .i64 0] 45 (0,0)):=by rw [←hW1];exact heap_alloc_new w _
 clear hW1
 have hz1:=(Array.getElem?_eq_some_iff.1 q1).1
 have c0:=CB.out w1 hb1
 simp at c0
 have hlk:=LK.out w1 hb1
 have hT1:T<w1.heap.size:=Nat.lt_of_lt_of_le hTw hb1.size
 obtain ⟨y0,y1,e0,e1⟩:=box2 q1
 have ARM:True:=trivial
 cases hf:findL os id with
 | none =>
  rw [hf] at hlk hr
  simp only [Option.map_none] at hlk hr
  go_upto_region 2 with fail
  clear hlk c0 ARM
  cases b1
  ·obtain rfl:r=(43,0,0):=by rw [hr];rfl
   go_wp2_with (go_at_call 149;with_reducible refine mQ (N1 _) ?_;intro w2 hb2 hc2 hf2 hz2;intros)
   exact bodyPost_ret (v:=.tuple #[.agg #[.int .i64 0,.int .i64 0],.int .i64 43]) (by simp [results,Tryz.results74,go_sem, *]) rfl ⟨rfl,by exact below_auto⟩
  ·cases b2
   ·obtain rfl:r=(43,0,0):=by rw [hr];rfl
    go_wp2_with (first|(go_at_call 149;with_reducible refine mQ (N1 _) ?_;intro w2 hb2 hc2 hf2 hz2;intros)|(go_at_call 149;with_reducible refine mQ (N2 _) ?_;intro w3 hb3 hc3 hf3 hz3;intros))
    exact bodyPost_ret (v:=.tuple #[.agg #[.int .i64 0,.int .i64 0],.int .i64 43]) (by simp [results,Tryz.results74,go_sem, *]) rfl ⟨rfl,by exact below_auto⟩
   ·go_upto_region 4 with (first|(go_at_call 149;with_reducible refine mQ (N1 _) ?_;intro w2 hb2 hc2 hf2 hz2;intros)|(go_at_call 149;with_reducible refine mQ (N2 _) ?_;intro w3 hb3 hc3 hf3 hz3;intros))
    have hb3:Below w.heap.size w w3:=by exact below_auto
    have c0:=CB.out w3 hb3
    simp at c0
    have hln:=LN.out w3 hb3
    have hT3:T<w3.heap.size:=Nat.lt_of_lt_of_le hTw hb3.size
    by_cases h16':os.length=16
    ·obtain rfl:r=(131,0,0):=by rw [hr];simp [h16']
     rw [h16'] at hln
     go_wp2_with fail
     exact bodyPost_ret (v:=.tuple #[.agg #[.int .i64 0,.int .i64 0],.int .i64 131]) (by simp [results,Tryz.results74,go_sem, *]) rfl ⟨rfl,by exact below_auto⟩
    ·obtain rfl:r=(0,0,0):=by rw [hr];simp [h16']
     have hne:((os.length:Int) == 16)=false:=by simp;omega
     go_wp2_with fail
     exact bodyPost_ret (v:=.tuple #[.agg #[.int .i64 0,.int .i64 0],.int .i64 0]) (by simp [results,Tryz.results74,go_sem, *]) rfl ⟨rfl,by exact below_auto⟩
 | some o =>
  rw [hf] at hlk hr
  simp only [Option.map_some,SL.val] at hlk hr
  go_upto_region 2 with fail
  clear hlk c0 ARM
  cases b1
  ·obtain rfl:r=(43,0,0):=by rw [hr];rfl
   go_wp2_with (go_at_call 149;with_reducible refine mQ (N1 _) ?_;intro w2 hb2 hc2 hf2 hz2;intros)
   exact bodyPost_ret (v:=.tuple #[.agg #[.int .i64 0,.int .i64 0],.int .i64 43]) (by simp [results,Tryz.results74,go_sem, *]) rfl ⟨rfl,by exact below_auto⟩
  ·cases b2
   ·obtain rfl:r=(43,0,0):=by rw [hr];rfl
    go_wp2_with (first|(go_at_call 149;with_reducible refine mQ (N1 _) ?_;intro w2 hb2 hc2 hf2 hz2;intros)|(go_at_call 149;with_reducible refine mQ (N2 _) ?_;intro w3 hb3 hc3 hf3 hz3;intros))
    exact bodyPost_ret (v:=.tuple #[.agg #[.int .i64 0,.int .i64 0],.int .i64 43]) (by simp [results,Tryz.results74,go_sem, *]) rfl ⟨rfl,by exact below_auto⟩
   ·go_upto_region 4 with (first|(go_at_call 149;with_reducible refine mQ (N1 _) ?_;intro w2 hb2 hc2 hf2 hz2;intros)|(go_at_call 149;with_reducible refine mQ (N2 _) ?_;intro w3 hb3 hc3 hf3 hz3;intros))
    have hb3:Below w.heap.size w w3:=by exact below_auto
    obtain ⟨bx,hrow,hl8,hbk,hrk,hh1,hh2⟩:=SO.out w3 hb3 hf
    have hsq:=HSQ.out (by first|rfl|trivial)
    have FD:=hid (zFind_any seq hsq bx hrow (by omega) hbk hrk)
    have HROW:=hid hrow
    obtain ⟨k0,k1,-,-⟩:=box2 bx
    have hp3:=(Array.getElem?_eq_some_iff.1 bx).1
    simp only [Bool.and_self,Bool.true_eq_false,if_false] at hr
    have HF:Hid (findL os id=some o):=hid hf
    have HBX:=hid bx
    clear bx hrow hbk hrk hf
    by_cases hlo:seq≤o.d.hi-8
    ·obtain rfl:r=(130,0,0):=by rw [hr];simp [hlo]
     go_wp2_with fail
     exact bodyPost_ret (v:=.tuple #[.agg #[.int .i64 0,.int .i64 0],.int .i64 130]) (by simp [results,Tryz.results74,go_sem, *]) rfl ⟨rfl,by exact below_auto⟩
    ·rw [if_neg hlo] at hr
     have hhas:=hid (show hasK o.d.ks seq=true→∃ x,o.d.ks[plc o.d.ks seq]? = some x from fun h=>by obtain ⟨x,h1,_⟩:=hasK_mem h;exact ⟨x,h1⟩)
     generalize hasK o.d.ks seq=hk at *
     obtain ⟨pl,hpl⟩:∃ pl,pl=plc o.d.ks seq:=⟨_,rfl⟩
     rw [←hpl] at hr hhas FD
     clear hpl
     cases hk
     ·obtain rfl:r=(0,0,0):=by rw [hr];rfl
      go_wp2_with (go_at_call 150;with_reducible refine mQ (FD.out) ?_;intro w4 hb4 hc4 hf4 hz4;intros)
      exact bodyPost_ret (v:=.tuple #[.agg #[.int .i64 0,.int .i64 0],.int .i64 0]) (by simp [results,Tryz.results74,go_sem, *]) rfl ⟨rfl,by exact below_auto⟩
     ·obtain ⟨x,hx⟩:=hhas.out (by first|rfl|trivial)
      rw [hx] at hr
      obtain rfl:r=(5,x.code,x.num):=by rw [hr];rfl
      obtain ⟨g,hga,hgb,hcs⟩:=own_item HROW.out hx
      obtain ⟨d0,d1,d2⟩:=hcs
      rw [hga] at k1
      have hpl:pl<o.d.ks.length:=(List.getElem?_eq_some_iff.1 hx).1
      generalize o.d.ks.length=m at *
      have hpl':(pl:Int)<(m:Int):=by omega
      clear hr hx
      go_wp2_with (go_at_call 150;with_reducible refine mQ (FD.out) ?_;intro w4 hb4 hc4 hf4 hz4;intros)
      exact bodyPost_ret (v:=.tuple #[.agg #[.int .i64 x.code,.int .i64 x.num],.int .i64 5]) (by simp [results,Tryz.results74,go_sem, *]) rfl ⟨rfl,by exact below_auto⟩

theorem grownZ {B p:Nat} {w w':World} (h:w.grownBy w' (some p)) (hp:B≤p) (hB:B≤w.heap.size):Below B w w' :=
 ⟨h.os,h.tape,h.output,h.size,fun k hk=>h.block k (by omega) fun e=>by have:=Option.some.inj e;omega⟩
structure TurnS (ow:Nat→Nat) (j:Nat) (w w':World):Prop where
 os:w'.os=w.os
 tape:w'.tape=w.tape
 output:w'.output=w.output
 size:w.heap.size≤w'.heap.size
 block:∀ k,k<w.heap.size→ow k≠j→ow k≠j+1→w'.heap[k]? = w.heap[k]?
structure StP (B:Nat) (ow:Nat→Nat) (j p:Nat) (w X:World) (hi:Int) (a:Option Addr) (c:Nat) (ks:List SIt):Prop where
 tn:TurnS ow j w X
 lt:p<w.heap.size∧ow p=j
 bx:X.heap[p]? = some (.cells #[.int .i64 hi,.slice a ks.length c] 258 (0,0))
 row:X.ownsRow B 262 3 (.slice a ks.length c) ks.length (sCells ks)
 blk:∀ g,(Value.slice a ks.length c).ownBlock=some g→(ow g=j+1∨w.heap.size≤g)
section
variable {B j p c : Nat} {ow : Nat → Nat} {w X X' : World} {hi : Int} {a : Option Addr} {ks : List SIt}
theorem TurnS.below (h:TurnS ow j w X) (hb:Below w.heap.size X X'):TurnS ow j w X' :=
 ⟨hb.os.trans h.os,hb.tape.trans h.tape,hb.output.trans h.output,Nat.le_trans h.size hb.size,fun k hk h1 h2=>(hb.block k hk).trans (h.block k hk h1 h2)⟩
theorem TurnS.grown (h:TurnS ow j w X) {r:Option Nat} (hg:X.grownBy X' r) (hr:∀ g,r=some g→ow g=j∨ow g=j+1∨w.heap.size≤g):TurnS ow j w X' :=
 ⟨hg.os.trans h.os,hg.tape.trans h.tape,hg.output.trans h.output,Nat.le_trans h.size hg.size,fun k hk h1 h2=>(hg.block k (Nat.lt_of_lt_of_le hk h.size) fun e=>by
  rcases hr k e.symm with h3|h3|h3
  ·exact h1 h3
  ·exact h2 h3
  ·omega).trans (h.block k hk h1 h2)⟩
theorem StP.below (h:StP B ow j p w X hi a c ks) (hb:Below X.heap.size X X'):StP B ow j p w X' hi a c ks :=
 ⟨h.tn.below (hb.mono h.tn.size),h.lt,(hb.block p (Array.getElem?_eq_some_iff.1 h.bx).1).trans h.bx,row_kept h.row fun g e=>hb.block g (h.row.lt g e).2,h.blk⟩
theorem StP.ap (h:StP B ow j p w X hi a c ks):(Value.slice a ks.length c).ownBlock≠some p:=fun e=>by
 have h1:=h.lt
 rcases h.blk p e with h2|h2 <;> omega
theorem StP.free (h:StP B ow j p w X hi a c ks) {k:Nat} (hk:k<w.heap.size) (h0:ow k=0) (hj:0<j):X.heap[k]? = w.heap[k]?:=h.tn.block k hk (by omega) (by omega)
theorem StP.high (h:StP B ow j p w X hi a c ks) (n:Int):StP B ow j p w (X.setCell ⟨p,0,none⟩ (.int .i64 n)) n a c ks:=by
 obtain ⟨r,g⟩:=K.set1 (i:=0) h.bx (.int .i64 n)
 exact ⟨h.tn.grown g fun k e=>by cases e;exact .inl h.lt.2,h.lt,r,row_kept h.row fun k e=>g.block k (h.row.lt k e).2 fun e'=>h.ap (by rw [e,e']),h.blk⟩
theorem StP.rows (h:StP B ow j p w X hi a c ks) {a':Option Addr} {c' n:Nat} {ks':List SIt} (hn:ks'.length=n) (hg:X.grownBy X' (Value.slice a ks.length c).ownBlock) (hr:X'.ownsRow B 262 3 (.slice a' n c') n (sCells ks'))
  (ho:(Value.slice a' n c').ownBlock=(Value.slice a ks.length c).ownBlock∨(Value.slice a' n c').ownBlock=none∨∃ g,(Value.slice a' n c').ownBlock=some g∧X.heap.size≤g) :
  X'.heap[p]? = some (.cells #[.int .i64 hi,.slice a ks.length c] 258 (0,0))∧StP B ow j p w (X'.setCell ⟨p,1,none⟩ (.slice a' n c')) hi a' c' ks':=by
 subst hn
 have hs:=h.tn.size
 have hp:=(Array.getElem?_eq_some_iff.1 h.bx).1
 have bx:X'.heap[p]? = some (.cells #[.int .i64 hi,.slice a ks.length c] 258 (0,0)):=(hg.block p hp fun e=>h.ap e.symm).trans h.bx
 have blk:∀ g,(Value.slice a' ks'.length c').ownBlock=some g→(ow g=j+1∨w.heap.size≤g):=fun g e=>by
  rcases ho with h1|h1|⟨g',h1,h2⟩
  ·exact h.blk g (h1.symm.trans e)
  ·rw [h1] at e;cases e
  ·rw [h1] at e;cases e;exact .inr (by omega)
 obtain ⟨r,g⟩:=K.set1 (i:=1) bx (.slice a' ks'.length c')
 have hl:=h.lt
 refine ⟨bx,⟨(h.tn.grown hg fun k e=>by
  rcases h.blk k e with h1|h1
  ·exact .inr (.inl h1)
  ·exact .inr (.inr h1)).grown g fun k e=>by cases e;exact .inl hl.2,hl,r,row_kept hr fun k e=>g.block k (hr.lt k e).2 fun e'=>by
   cases e'
   rcases blk p e with h1|h1 <;> omega,blk⟩⟩
end
section
variable {B T mb : Nat} {os : List SL} {ow : Nat → Nat} {w w' : World}
theorem insL_len {x:SL} (h:risS (os.map SL.d)) (he:∃ o∈os,o.d.id=x.d.id):(insL x os).length=os.length:=by
 have h1:=congrArg List.length (insL_d x os)
 obtain ⟨o,ho,e⟩:=he
 rw [List.length_map,insT_same h ⟨o.d,List.mem_map_of_mem ho,e⟩,List.length_map] at h1
 exact h1
theorem insL_new:∀ {os:List SL} {x:SL},(∀ o∈os,o.d.id≠x.d.id)→(insL x os).length=os.length+1
 | [],_,_=>rfl
 | y :: t,x,h=>by
  have hy:=h y List.mem_cons_self
  unfold insL
  split
  ·rfl
  ·rw [if_neg fun e=>hy e.symm]
   simp [insL_new (os:=t) (x:=x) fun o ho=>h o (List.mem_cons_of_mem _ ho)]
theorem SAt.upd (h:SAt B T mb os ow w) {o:SL} (ho:o∈os) {hi':Int} {a':Option Addr} {c':Nat} {ks':List SIt} (t:StP B ow (2 * o.d.id.toNat) o.p w w' hi' a' c' ks') :
  ∃ ow',SAt B T mb (insL ⟨⟨o.d.id,hi',ks'⟩,o.p,a',c'⟩ os) ow' w'∧Fr ow ow' w w':=by
 have hpos:=h.pos o ho
 have hl:=fun k hk=>(h.low k hk).2
 have hB:B≤w.heap.size:=by have:=h.lt;omega
 have old:∀ k,k<w.heap.size→give ow w w' (2 * o.d.id.toNat+1) k=ow k:=fun k hk=>give_old hk
 have kept:∀ k,ow k≠0→ow k≠2 * o.d.id.toNat→ow k≠2 * o.d.id.toNat+1→w'.heap[k]? = w.heap[k]?:=fun k h0 h1 h2=>t.tn.block k (hl k h0) h1 h2
 have two:∀ y∈os,y.d.id≠o.d.id→2 * y.d.id.toNat≠2 * o.d.id.toNat∧2 * y.d.id.toNat≠2 * o.d.id.toNat+1∧2 * y.d.id.toNat+1≠2 * o.d.id.toNat∧2 * y.d.id.toNat+1≠2 * o.d.id.toNat+1∧2 * y.d.id.toNat≠0:=fun y hy hne=>by
  have:=h.pos y hy;omega
 have hmem:∀ y,y∈insL ⟨⟨o.d.id,hi',ks'⟩,o.p,a',c'⟩ os↔y=⟨⟨o.d.id,hi',ks'⟩,o.p,a',c'⟩∨(y∈os∧y.d.id≠o.d.id):=fun y=>insL_mem h.up
 have hlen:(insL ⟨⟨o.d.id,hi',ks'⟩,o.p,a',c'⟩ os).length=os.length:=insL_len h.up ⟨o,ho,rfl⟩
 refine ⟨give ow w w' (2 * o.d.id.toNat+1),⟨(kept T (by rw [h.hT];decide) (by rw [h.hT];omega) (by rw [h.hT];omega)).trans h.box,(old T (hl T (by rw [h.hT];decide))).trans h.hT,?_,(old mb (hl mb (by rw [h.hm];decide))).trans h.hm,fun y hy=>?_,fun y hy=>?_,fun k hk=>?_,?_,fun y hy=>?_,by rw [hlen];exact h.few⟩,⟨t.tn.os,t.tn.tape,t.tn.output,t.tn.size,fun k hk h0=>t.tn.block k hk (by omega) (by omega),fun k hk=>old k hk⟩⟩
 ·rw [hlen,insL_same (x:=⟨⟨o.d.id,hi',ks'⟩,o.p,a',c'⟩) h.up ⟨o,ho,rfl,rfl⟩]
  exact map_kept h.map (kept mb (by rw [h.hm];decide) (by rw [h.hm];omega) (by rw [h.hm];omega))
 ·rcases (hmem y).1 hy with rfl|⟨h1,h2⟩
  ·exact ⟨t.bx,(old o.p t.lt.1).trans t.lt.2⟩
  ·obtain ⟨e1,e2⟩:=h.ses y h1
   obtain ⟨z1,z2,z3,z4,z5⟩:=two y h1 h2
   exact ⟨(kept y.p (by rw [e2];exact z5) (by rw [e2];exact z1) (by rw [e2];exact z2)).trans e1,(old y.p (hl y.p (by rw [e2];exact z5))).trans e2⟩
 ·rcases (hmem y).1 hy with rfl|⟨h1,h2⟩
  ·refine ⟨t.row,fun g e=>?_⟩
   have hg:=(t.row.lt g e).2
   rcases t.blk g e with h3|h3
   ·by_cases hgw:g<w.heap.size
    ·exact (old g hgw).trans h3
    ·exact give_new (by omega) hg
   ·exact give_new h3 hg
  ·obtain ⟨e1,e2⟩:=h.row y h1
   obtain ⟨z1,z2,z3,z4,z5⟩:=two y h1 h2
   exact ⟨row_kept e1 fun g e=>kept g (by rw [e2 g e];omega) (by rw [e2 g e];exact z3) (by rw [e2 g e];exact z4),fun g e=>(old g (e1.lt g e).2).trans (e2 g e)⟩
 ·have hs:=t.tn.size
  by_cases h1:k<w.heap.size
  ·rw [old k h1] at hk
   have:=h.low k hk;omega
  ·by_cases h2:k<w'.heap.size
   ·omega
   ·exfalso;apply hk;unfold give;rw [if_neg h1,if_neg h2]
 ·rw [insL_d];exact insT_ris h.up
 ·rcases (hmem y).1 hy with rfl|⟨h1,_⟩
  ·exact hpos
  ·exact h.pos y h1
theorem SAt.newS {w0:World} {id:Int} {p:Nat} (h:SAt B T mb os ow w0) (hb:Below w0.heap.size w0 w) (hnew:∀ o∈os,o.d.id≠id) (hid:1≤id∧id≤1099511627776) (hl:os.length≠16) (hp:w0.heap.size≤p) (hpx:w.heap[p]? = some (.cells #[.int .i64 0,.slice none 0 0] 258 (0,0)))
  (hown:w'.ownsMap (H:=Value) Tryz.prog 2 heldR mb (os.length+1) ((datOf os).put (.int .i64 id) (.held (.pointer (some ⟨p,0,none⟩))))) (hg:w.grownBy w' (some mb)) :
  ∃ ow',SAt B T mb (insL ⟨⟨id,0,[]⟩,p,none,0⟩ os) ow' w'∧Fr ow ow' w0 w'∧∀ k,w0.heap.size≤k→k≠p→ow' k=0:=by
 have hlow:=fun k hk=>(h.low k hk).2
 have zero:∀ k,w0.heap.size≤k→ow k=0:=fun k hk=>Classical.byContradiction fun h0=>by have:=hlow k h0;omega
 have hpw:=(Array.getElem?_eq_some_iff.1 hpx).1
 have hs:=hb.size;have hs2:=hg.size
 have hmb:=hlow mb (by rw [h.hm];decide)
 have kept:∀ k,k<w0.heap.size→k≠mb→w'.heap[k]? = w0.heap[k]?:=fun k hk hne=>(hg.block k (by omega) fun e=>hne (Option.some.inj e)).trans (hb.block k hk)
 obtain ⟨o2,ho2⟩:∃ f:Nat→Nat,f=fun k=>if k=p then 2 * id.toNat else ow k:=⟨_,rfl⟩
 have op:o2 p=2 * id.toNat:=by rw [ho2];simp
 have on:∀ k,k≠p→o2 k=ow k:=fun k hk=>by rw [ho2];simp [hk]
 have old:∀ k,k<w0.heap.size→o2 k=ow k:=fun k hk=>on k (by omega)
 have tmb:T≠mb:=fun e=>by
  obtain ⟨es,clock,hm,_⟩:=h.map
  have:=h.box
  rw [e,hm] at this;cases this
 have bmb:∀ {k:Nat} {cs:Array Value} {t:TypeId} {f:Nat×Nat},w0.heap[k]? = some (.cells cs t f)→k≠mb:=fun hk e=>by
  obtain ⟨es,clock,hm,_⟩:=h.map
  rw [e,hm] at hk;cases hk
 have hmem:∀ y,y∈insL ⟨⟨id,0,[]⟩,p,none,0⟩ os↔y=⟨⟨id,0,[]⟩,p,none,0⟩∨(y∈os∧y.d.id≠id):=fun y=>insL_mem h.up
 have hTl:=hlow T (by rw [h.hT];decide)
 refine ⟨o2,⟨(kept T hTl tmb).trans h.box,(old T hTl).trans h.hT,?_,(old mb hmb).trans h.hm,fun y hy=>?_,fun y hy=>?_,fun k hk=>?_,?_,fun y hy=>?_,by rw [insL_new hnew];have:=h.few;omega⟩,⟨hg.os.trans hb.os,hg.tape.trans hb.tape,hg.output.trans hb.output,by omega,fun k hk h0=>kept k hk fun e=>(by rw [e,h.hm] at h0;cases h0),old⟩,fun k hk hne=>(on k hne).trans (zero k hk)⟩
 ·rw [insL_new hnew]
  have e:=dat_put os ⟨⟨id,0,[]⟩,p,none,0⟩ hnew
  have e2:(datOf os).put (.int .i64 id) (.held (.pointer (some ⟨p,0,none⟩)))=datOf (insL ⟨⟨id,0,[]⟩,p,none,0⟩ os):=e
  rw [←e2];exact hown
 ·rcases (hmem y).1 hy with rfl|⟨h1,_⟩
  ·exact ⟨(hg.block p hpw fun e=>by have:=Option.some.inj e;omega).trans hpx,op⟩
  ·obtain ⟨e1,e2⟩:=h.ses y h1
   have hyl:=(Array.getElem?_eq_some_iff.1 e1).1
   exact ⟨(kept y.p hyl (bmb e1)).trans e1,(old y.p hyl).trans e2⟩
 ·rcases (hmem y).1 hy with rfl|⟨h1,_⟩
  ·exact ⟨World.ownsRow_nil _ _ _ _,fun g e=>by cases e⟩
  ·obtain ⟨e1,e2⟩:=h.row y h1
   refine ⟨row_kept e1 fun g e=>kept g (e1.lt g e).2 fun e'=>?_,fun g e=>(old g (e1.lt g e).2).trans (e2 g e)⟩
   have h3:=e2 g e
   rw [e',h.hm] at h3
   have:=h.pos y h1;omega
 ·by_cases h1:k=p
  ·have:=h.lt;omega
  ·rw [on k h1] at hk
   have:=h.low k hk;omega
 ·rw [insL_d];exact insT_ris h.up
 ·rcases (hmem y).1 hy with rfl|⟨h1,_⟩
  ·exact hid
  ·exact h.pos y h1
end
open Go.Proofs.YtdeeoddacnealaaGreat.P (ls1 ls2 ls3)

def putC (t:List SD) (id:Int) (x:SIt):Int:=if (lookT t id x.seq).1≠0 then (lookT t id x.seq).1 else if okV x.code x.num=true then 0 else 1
def putR (t:List SD) (id:Int) (x:SIt):List SD:=if putC t id x=0 then putT t id x else t
def PutRet (B T mb:Nat) (os:List SL) (ow:Nat→Nat) (id:Int) (x:SIt) (w:World) (e:Ending) (w':World):Prop :=
 e=.returned (.int .i64 (putC (os.map SL.d) id x))∧∃ os' ow',SAt B T mb os' ow' w'∧os'.map SL.d=putR (os.map SL.d) id x∧Fr ow ow' w w'
theorem PutRet.no {B T mb:Nat} {os:List SL} {ow:Nat→Nat} {id:Int} {x:SIt} {w w':World} (h:SAt B T mb os ow w) (hb:Below w.heap.size w w') {c:Int} (hc:putC (os.map SL.d) id x=c) (h0:c≠0):PutRet B T mb os ow id x w (.returned (.int .i64 c)) w':=by
 subst hc
 exact ⟨rfl,os,ow,h.below hb,by unfold putR;rw [if_neg h0],Fr.of_below ow hb⟩
theorem box1 {w:World} {b:Nat} {x0:Value} {T:TypeId} (h:w.heap[b]? = some (.cells #[x0] T (0,0))):w.cell? ⟨b,0,none⟩=some x0∧w.frozen? ⟨b,0,none⟩=false∧b<w.heap.size :=
 ⟨by rw [cell_row h];rfl,by simp [World.frozen?,h],(Array.getElem?_eq_some_iff.1 h).1⟩
def DelR (B:Nat) (ow:Nat→Nat) (j p:Nat) (w Y0:World) (hi m:Int) (ks:List SIt) (row:Value):List Value→World→Prop
 | [],X=>X=Y0
 | [v],X=>∃ a' c',v=.slice a' (keepK m ks).length c'∧Y0.grownBy X row.ownBlock∧X.ownsRow B 262 3 (.slice a' (keepK m ks).length c') (keepK m ks).length (sCells (keepK m ks))∧(Value.slice a' (keepK m ks).length c').ownBlock=row.ownBlock
 | _,X=>∃ a' c',StP B ow j p w X hi a' c' (keepK m ks)
section
variable {B j p c : Nat} {ow : Nat → Nat} {w Y0 X : World} {hi m : Int} {a : Option Addr} {ks : List SIt} {ms : List Value}
theorem DelR.free (h0:StP B ow j p w Y0 hi a c ks) {row:Value} (hw:row=.slice a ks.length c) (hx:DelR B ow j p w Y0 hi m ks row ms X) {k:Nat} (hk:k<w.heap.size) (hz:ow k=0) (hj:0<j):X.heap[k]? = w.heap[k]?:=by
 have h1:=h0.free hk hz hj
 have hs:=h0.tn.size
 subst hw
 match ms,hx with
 | [],hx=>rw [show X=Y0 from hx];exact h1
 | [_],⟨_,_,_,hg,_⟩=>exact (hg.block k (by omega) fun e=>by rcases h0.blk k e.symm with h2|h2 <;> omega).trans h1
 | _ :: _ :: _,⟨_,_,hx⟩=>exact hx.free hk hz hj
theorem del_any (h:StP B ow j p w Y0 hi a c ks) (hl:ks.length≤64) {BX:Nat} (hb:BX<w.heap.size∧ow BX=0) (hj:0<j) (hq:w.heap[BX]? = some (.cells #[.pointer (some ⟨p,0,none⟩)] 254 (0,0))) (hm:m=hi-8) (hh:0≤hi∧hi≤1099511627776) :
  Calls Tryz.prog 152 #[.slice a ks.length c,.func (.func 153) #[] #[.pointer (some ⟨BX,0,none⟩)]] Y0 fun e X=>∃ v,e=.returned v∧DelR B ow j p w Y0 hi m ks (.slice a ks.length c) [v] X:=by
 obtain ⟨k0,_,_⟩:=box1 ((h.free hb.1 hb.2 hj).trans hq)
 obtain ⟨p0,_,_,_⟩:=box2 h.bx
 have hs:=h.tn.size
 refine (zDelete_any (its:=ks) BX p m h.row hl (fun e=>by rcases h.blk _ e with h2|h2 <;> omega) h.ap ⟨by omega,(Array.getElem?_eq_some_iff.1 h.bx).1,k0,by rw [p0,hm,Int.sub_add_cancel],by omega⟩).mono ?_
 rintro e X ⟨v',rfl,h1,h2,h3⟩
 obtain ⟨a',c',rfl⟩:=own_slice h2
 exact ⟨_,rfl,a',c',rfl,h3,h2,h1⟩
end
structure PutK (B T mb:Nat) (os:List SL) (ow:Nat→Nat) (id:Int) (x:SIt) (w:World) (V BX:Nat) (os1:List SL) (ow1:Nat→Nat) (o:SL) (wz:World):Prop where
 at_:SAt B T mb os1 ow1 wz
 fr:Fr ow ow1 w wz
 mem:o∈os1∧o.d.id=id
 put:insT (putS o.d x) (os1.map SL.d)=putT (os.map SL.d) id x
 ks:hasK o.d.ks x.seq=false∧risK o.d.ks∧BndK o.d.ks∧o.d.ks.length≤8
 hi:0≤o.d.hi∧o.d.hi≤1099511627776
 qb:wz.heap[BX]? = some (.cells #[.pointer (some ⟨o.p,0,none⟩)] 254 (0,0))
 qv:wz.heap[V]? = some (.cells #[.int .i64 x.code,.int .i64 x.num] 45 (0,0))
 own:ow1 BX=0∧ow1 V=0
def InR (B:Nat) (ow:Nat→Nat) (j p:Nat) (w Y0:World) (hi:Int) (ks:List SIt) (row:Value) (x:SIt):List Value→World→Prop
 | [],X=>X=Y0
 | [v],X=>v=.slice (some ⟨Y0.heap.size,0,none⟩) 1 1∧X=Y0.alloc (.cells #[.int .i64 x.seq,.int .i64 x.code,.int .i64 x.num] 262)
 | [_,v],X=>∃ a' c',v=.slice a' (ks.length+1) c'∧Y0.grownBy X row.ownBlock∧X.ownsRow B 262 3 (.slice a' (ks.length+1) c') (ks.length+1) (sCells (insK ks x))∧((Value.slice a' (ks.length+1) c').ownBlock=row.ownBlock∨(Value.slice a' (ks.length+1) c').ownBlock=none∨∃ g,(Value.slice a' (ks.length+1) c').ownBlock=some g∧Y0.heap.size≤g)
 | _,X=>∃ a' c',StP B ow j p w X hi a' c' (insK ks x)
section
variable {B j p c : Nat} {ow : Nat → Nat} {w Y0 X : World} {hi : Int} {a : Option Addr} {ks : List SIt} {x : SIt} {ms : List Value}
theorem InR.free (h0:StP B ow j p w Y0 hi a c ks) {row:Value} (hw:row=.slice a ks.length c) (hx:InR B ow j p w Y0 hi ks row x ms X) {k:Nat} (hk:k<w.heap.size) (hz:ow k=0) (hj:0<j):X.heap[k]? = w.heap[k]?:=by
 have h1:=h0.free hk hz hj
 have hs:=h0.tn.size
 subst hw
 match ms,hx with
 | [],hx=>rw [show X=Y0 from hx];exact h1
 | [_],hx=>rw [show X=_ from hx.2];exact ((World.grownBy_alloc Y0 _ none).block k (by omega) (by simp)).trans h1
 | [_,_],⟨_,_,_,hg,_⟩=>exact (hg.block k (by omega) fun e=>by rcases h0.blk k e.symm with h2|h2 <;> omega).trans h1
 | _ :: _ :: _ :: _,⟨_,_,hx⟩=>exact hx.free hk hz hj
theorem InR.box (h0:StP B ow j p w Y0 hi a c ks) {row:Value} (hx:InR B ow j p w Y0 hi ks row x ms X) (hl:ms.length≤1):X.heap[p]? = some (.cells #[.int .i64 hi,.slice a ks.length c] 258 (0,0)):=by
 have hp:=(Array.getElem?_eq_some_iff.1 h0.bx).1
 match ms,hx with
 | [],hx=>rw [show X=Y0 from hx];exact h0.bx
 | [_],hx=>rw [show X=_ from hx.2];exact ((World.grownBy_alloc Y0 _ none).block p hp (by simp)).trans h0.bx
 | _ :: _ :: _,_=>exact absurd hl (by simp)
end
theorem insK_cells (ks:List SIt) (x:SIt):(sCells ks).take (plc ks x.seq * 3)++[.int .i64 x.seq,.int .i64 x.code,.int .i64 x.num]++(sCells ks).drop (plc ks x.seq * 3)=sCells (insK ks x):=by
 have hp:=plc_le ks x.seq
 have h1:(sCells ks).take (plc ks x.seq * 3)=sCells (ks.take (plc ks x.seq)):=flat_take SIt.enc_len ks _
 have h2:(sCells ks).drop (plc ks x.seq * 3)=sCells (ks.drop (plc ks x.seq)):=by
  have e:sCells ks=sCells (ks.take (plc ks x.seq))++sCells (ks.drop (plc ks x.seq)):=by
   unfold sCells;rw [←List.flatMap_append,List.take_append_drop]
  rw [e]
  have hl:(sCells (ks.take (plc ks x.seq))).length=plc ks x.seq * 3:=by rw [sCells_len,List.length_take,Nat.min_eq_left hp]
  rw [←hl,List.drop_left]
 rw [h1,h2]
 unfold insK sCells
 rw [List.flatMap_append,List.flatMap_append]
 simp [SIt.enc]
theorem ins_any {B j p c:Nat} {ow:Nat→Nat} {w Y0:World} {hi:Int} {a:Option Addr} {ks:List SIt} (h:StP B ow j p w Y0 hi a c ks) (hl:ks.length≤8) (hB:B≤Y0.heap.size) (x:SIt) :
  Calls Tryz.prog 151 #[.slice a ks.length c,.int .i64 (plc ks x.seq),.slice (some ⟨Y0.heap.size,0,none⟩) 1 1] (Y0.alloc (.cells #[.int .i64 x.seq,.int .i64 x.code,.int .i64 x.num] 262)) fun e X=>∃ v,e=.returned v∧∀ v0,InR B ow j p w Y0 hi ks (.slice a ks.length c) x [v0,v] X:=by
 have hga:=World.grownBy_alloc Y0 (.cells #[.int .i64 x.seq,.int .i64 x.code,.int .i64 x.num] 262) (Value.slice a ks.length c).ownBlock
 have hr:=h.row.alloc (.cells #[.int .i64 x.seq,.int .i64 x.code,.int .i64 x.num] 262)
 refine (vInsert (.slice a ks.length c) Y0.heap.size B ks.length (plc ks x.seq) (sCells ks) [.int .i64 x.seq,.int .i64 x.code,.int .i64 x.num] _ (by simp;omega) hr (by omega) (plc_le _ _) (sCells_one ks) rfl (x.enc_one) (heap_alloc_new Y0 _) (fun e=>by have:=(h.row.lt _ e).2;omega)).mono ?_
 rintro e X ⟨v',rfl,h1,h2⟩
 rw [insK_cells] at h1
 obtain ⟨a',c',rfl⟩:=own_slice (its:=insK ks x) (by rw [insK_len];exact h1)
 rw [insK_len] at h2 ⊢
 refine ⟨_,rfl,fun v0=>⟨a',c',rfl,hga.trans h2.1,by rw [insK_len] at h1;exact h1,?_⟩⟩
 rcases h2.2 with h3|h3|⟨g,h3,h4⟩
 ·exact .inl h3
 ·exact .inr (.inl h3)
 ·exact .inr (.inr ⟨g,h3,by simp at h4;omega⟩)
set_option maxHeartbeats 4000000 in
set_option maxRecDepth 100000 in
theorem put_any {B T mb:Nat} {os:List SL} {ow:Nat→Nat} {w:World} (h:SAt B T mb os ow w) (hI:TInv (os.map SL.d)) (id:Int) (x:SIt) (hb:-9223372036854775808≤id∧id≤9223372036854775807) :
  Calls Tryz.prog 75 #[.pointer (some ⟨T,0,none⟩),.int .i64 id,.int .i64 x.seq,.agg #[.int .i64 x.code,.int .i64 x.num]] w (PutRet B T mb os ow id x w):=by
 have LOOK:=hid fun W (hb':Below w.heap.size w W)=>look_any (h.below hb') hI id x.seq hb
 have HNO:=hid fun W (hb':Below w.heap.size w W) c (hc:putC (os.map SL.d) id x=c) h0=>PutRet.no h hb' hc h0
 have HZ:=hid fun h0=>look_zero (t:=os.map SL.d) (id:=id) (seq:=x.seq) h0
 have HPC:Hid (putC (os.map SL.d) id x=if (lookT (os.map SL.d) id x.seq).1≠0 then (lookT (os.map SL.d) id x.seq).1 else if okV x.code x.num=true then 0 else 1):=hid rfl
 have HH:=hid h;have HI:=hid hI;have HB:=hid hb
 generalize lookT (os.map SL.d) id x.seq=r at *
 obtain ⟨lc,l1,l2⟩:=r
 simp only at LOOK HPC HZ
 clear h hI hb
 go_enter Tryz.func75,Tryz.ntmps75
 go_upto_region 1 with fail
 generalize hW1:World.alloc _ _=w1
 have hb1:Below w.heap.size w w1:=by rw [←hW1];exact below_auto
 have q1:w1.heap[w.heap.size]? = some (.cells #[.int .i64 x.code,.int .i64 x.num] 45 (0,0)):=by rw [←hW1];exact heap_alloc_new w _
 clear hW1
 have hz1:=(Array.getElem?_eq_some_iff.1 q1).1
 go_upto_region 2 with (go_at_call 74;with_reducible refine mQ (LOOK.out _ hb1) ?_;intro w2 hb2 hc2 hf2 hz2;intros)
 generalize hW3:World.alloc _ _=w3
 have hb3:Below w.heap.size w w3:=by rw [←hW3];exact below_auto
 have q3:w3.heap[w.heap.size]? = some (.cells #[.int .i64 x.code,.int .i64 x.num] 45 (0,0)):=by
  have hb23:Below w1.heap.size w1 w3:=by rw [←hW3];exact below_auto
  exact (hb23.block _ hz1).trans q1
 clear hW3 q1 hz1 hb1 hc2 hf2 hz2 hb2
 by_cases hl0:lc=0
 rotate_left
 ·have HF:=hid (HNO.out w3 hb3 lc (by rw [HPC.out,if_pos hl0]) hl0)
  have hne:(lc == 0)=false:=by simpa using hl0
  clear q3
  go_wp2_with fail
  go_ret
  exact HF.out
 subst hl0
 have HPC2:Hid (putC (os.map SL.d) id x=if okV x.code x.num=true then 0 else 1):=hid (by rw [HPC.out,if_neg (by simp)])
 obtain ⟨y0,y1,-,-⟩:=box2 q3
 have hz3:=(Array.getElem?_eq_some_iff.1 q3).1
 cases hv:okV x.code x.num with
 | false =>
  have HF:=hid (HNO.out w3 hb3 1 (by rw [HPC2.out,hv];rfl) (by decide))
  have hv':¬(((0≤x.code∧x.code≤999)∧0≤x.num)∧x.num≤1099511627776):=by unfold okV at hv;intro hx;simp [hx] at hv
  clear hv q3
  by_cases v1:x.code<0
  ·go_wp2_with fail
   go_ret
   exact HF.out
  ·by_cases v2:999<x.code
   ·go_wp2_with fail
    go_ret
    exact HF.out
   ·by_cases v3:x.num<0
    ·go_wp2_with fail
     go_ret
     exact HF.out
    ·have v4:1099511627776<x.num:=by omega
     go_wp2_with fail
     go_ret
     exact HF.out
 | true =>
  have HC0:Hid (putC (os.map SL.d) id x=0):=hid (by rw [HPC2.out,hv];rfl)
  obtain ⟨v1,v2,v3,v4⟩:0≤x.code∧x.code≤999∧0≤x.num∧x.num≤1099511627776:=by unfold okV at hv;simp at hv;omega
  clear HPC2 HPC HNO LOOK hv
  go_upto_region 6 with fail
  clear y0 y1 v1 v2 v3 v4
  obtain ⟨k1,k2,k3⟩:=HZ.out rfl
  have hH3:=HH.out.below hb3
  have c0:=cell_row hH3.box 0
  simp at c0
  have hT3:=hH3.lt.2
  have hlk:=look_s hH3 HB.out
  rw [←findL_d,List.length_map] at k3
  cases hf:findL os id
  case' none =>
   rw [hf] at hlk k3
   simp only [Option.map_none] at hlk k3
   go_upto_region 8 with fail
   generalize hW4:World.alloc _ _=w4
   have hb4:Below w3.heap.size w3 w4:=by rw [←hW4];exact below_auto
   have q4:w4.heap[w3.heap.size]? = some (.cells #[.pointer none] 254 (0,0)):=by rw [←hW4];exact heap_alloc_new w3 _
   obtain ⟨BX,hBX⟩:∃ BX,BX=w3.heap.size:=⟨_,rfl⟩
   rw [←hBX] at q4 ⊢
   have HBX:=hid hBX
   clear hW4 hlk c0 hBX
   obtain ⟨z0,z1,z2⟩:=box1 q4
   have z9:w3.heap.size<w4.heap.size:=by rw [←HBX.out];exact z2
   go_upto_region 9 with fail
   have hBX:=HBX.out
   obtain ⟨pb,hP⟩:∃ pb,pb=w4.heap.size:=⟨_,rfl⟩
   obtain ⟨QB,g5⟩:=K.set1 (i:=0) q4 (.pointer (some ⟨pb,0,none⟩))
   have hsz:(w4.setCell ⟨BX,0,none⟩ (.pointer (some ⟨pb,0,none⟩))).heap.size=w4.heap.size:=by simp
   have QP:((w4.setCell ⟨BX,0,none⟩ (.pointer (some ⟨pb,0,none⟩))).alloc (.cells #[.int .i64 0,.slice none 0 0] 258)).heap[pb]? = some (.cells #[.int .i64 0,.slice none 0 0] 258 (0,0)):=by
    have:=heap_alloc_new (w4.setCell ⟨BX,0,none⟩ (.pointer (some ⟨pb,0,none⟩))) (.cells #[.int .i64 0,.slice none 0 0] 258)
    rw [hsz,←hP] at this;exact this
   have QB:=((World.grownBy_alloc (w4.setCell ⟨BX,0,none⟩ (.pointer (some ⟨pb,0,none⟩))) (.cells #[.int .i64 0,.slice none 0 0] 258) none).block BX (by rw [hsz];exact z2) (by simp)).trans QB
   have hb5:=(hb4.trans (grownZ g5 (B:=w3.heap.size) (by omega) hb4.size)).alloc (by rw [hsz];exact hb4.size) (.cells #[.int .i64 0,.slice none 0 0] 258)
   rw [←hP]
   have HP:=hid hP
   obtain ⟨w5,hW5⟩:∃ w5,w5=(w4.setCell ⟨BX,0,none⟩ (.pointer (some ⟨pb,0,none⟩))).alloc (.cells #[.int .i64 0,.slice none 0 0] 258):=⟨_,rfl⟩
   rw [←hW5] at QB QP hb5 ⊢
   clear hW5 z0 z1 z2 g5 hsz hP hBX
   obtain ⟨z0,z1,z2⟩:=box1 QB
   have hH5:=HH.out.below (hb3.trans (hb5.mono hb3.size))
   have c0:=cell_row hH5.box 0
   simp at c0
   have hT5:=hH5.lt.2
   (refine wp_region_ext_tail 6 (by kernel_rfl) (by kernel_rfl) (by kernel_rfl) ?_;simp only [List.take_succ_cons,List.take_zero,List.drop_succ_cons,List.drop_zero];(repeat (go_big_quiet_step (first|fail)));refine mX ?_;intro w6 hb6 hc6 hf6 hz6;intros)
   have hH6:=hH5.below hb6
   have QB:=(hb6.block _ z2).trans QB
   have QP:=(hb6.block _ (Array.getElem?_eq_some_iff.1 QP).1).trans QP
   have QV:=(hb6.block _ (Nat.lt_of_lt_of_le hz3 hb5.size)).trans ((hb5.block _ hz3).trans q3)
   have hn16:os.length+1<maxLen:=by have:=hH6.few;unfold maxLen;omega
   have HH6:=hid hH6;have HB6:=hid (hb3.trans ((hb5.trans (hb6.mono hb5.size)).mono hb3.size))
   have hown6:=hH6.map
   have hlen16:os.length<maxLen:=by omega
   clear z0 z1 z2 c0 hH5 hT5 hb6 hc6 hf6 hz6 hH6
   go_upto_region 10 with (at_mapUpdate;refine wpList_mapUpdate_own _ rfl _ _ _ 249 rfl 2 254 mapKeyed Tryz.underlying249 heldR mb os.length (datOf os) rfl hown6 hlen16 (.int .i64 id) (.pointer (some ⟨pb,0,none⟩)) (.int .i64 id) rfl rfl (keyOf_int_mk Tryz.underlying2 (lit_wf HB.out)) (.held (.pointer (some ⟨pb,0,none⟩))) [] rfl ?_;intro w7 hown7 hg7)
   have hnl:∀ o∈os,o.d.id≠id:=fun o ho e=>findS_none (t:=os.map SL.d) (id:=id) (by rw [←findL_d,hf];rfl) o.d (List.mem_map_of_mem ho) e
   obtain ⟨o,ho⟩:∃ o:SL,o=⟨⟨id,0,[]⟩,pb,none,0⟩:=⟨_,rfl⟩
   have hHP:=HP.out;have hHX:=HBX.out
   have hzz:w3.heap.size≤w6.heap.size∧w.heap.size≤w3.heap.size∧w3.heap.size<w4.heap.size:=by
    have h1:=(Array.getElem?_eq_some_iff.1 QB).1;have h2:=hb4.size
    exact ⟨by omega,hb3.size,z9⟩
   have HS:=HH.out.newS (id:=id) (p:=pb) HB6.out hnl k1 (by rcases k3 with k3|⟨s,k3,_⟩;exact k3.2;cases k3) (by omega) QP hown7 hg7
   obtain ⟨ow1,HS1,HS2,HS3⟩:=HS
   have hmb:mb<w.heap.size:=HH.out.map.lt
   have PK:PutK B T mb os ow id x w w.heap.size BX (insL o os) ow1 o w7:=by
    refine ⟨by rw [ho];exact HS1,HS2,⟨(insL_mem HH.out.up).2 (.inl rfl),by rw [ho]⟩,?_,by rw [ho];exact ⟨rfl,List.Pairwise.nil,(fun _ h=>nomatch h),Nat.zero_le _⟩,by rw [ho];exact ⟨Int.le_refl _,by simp only;omega⟩,?_,(hg7.block _ (by omega) fun e=>by have:=Option.some.inj e;omega).trans QV,HS3 BX (by omega) (by omega),HS3 _ (Nat.le_refl _) (by omega)⟩
    ·rw [insL_d,insT_insT (by rw [ho];rfl)]
     unfold putT
     rw [←findL_d,hf,ho];rfl
    ·rw [ho];exact (hg7.block _ (Array.getElem?_eq_some_iff.1 QB).1 fun e=>by have:=Option.some.inj e;omega).trans QB
   clear hHP hHX hzz hmb HS1 HS2 HS3 QB QV QP hg7 hown7 hown6 hnl hf hb4 hb5
   generalize insL o os=os1 at *
   clear ho
   generalize w7=wz at *
  case' some o =>
   rw [hf] at hlk k3
   simp only [Option.map_some,SL.val] at hlk k3
   go_upto_region 10 with fail
   generalize hW4:World.alloc _ _=wz
   have hb4:Below w3.heap.size w3 wz:=by rw [←hW4];exact below_auto
   have q4:wz.heap[w3.heap.size]? = some (.cells #[.pointer (some ⟨o.p,0,none⟩)] 254 (0,0)):=by rw [←hW4];exact heap_alloc_new w3 _
   obtain ⟨BX,hBX⟩:∃ BX,BX=w3.heap.size:=⟨_,rfl⟩
   rw [←hBX] at q4 ⊢
   have PK:PutK B T mb os ow id x w w.heap.size BX os ow o wz:=by
    obtain ⟨hm,he⟩:=findL_some hf
    obtain ⟨_,h1,h2,h3,h4,h5,h6⟩:=ses_of HH.out HI.out hf
    have hs:=hb3.size
    refine ⟨hH3.below hb4,Fr.of_below ow (hb3.trans (hb4.mono hs)),⟨hm,he⟩,?_,⟨?_,h4,h3,h2⟩,⟨by omega,h6⟩,q4,(hb4.block _ hz3).trans q3,Classical.byContradiction fun h0=>?_,Classical.byContradiction fun h0=>?_⟩
    ·unfold putT
     rw [←findL_d,hf];rfl
    ·rcases k3 with ⟨k3,_⟩|⟨s,k3,_,k4⟩
     ·cases k3
     ·cases k3;exact k4
    ·have:=(HH.out.low _ h0).2;omega
    ·have:=(HH.out.low _ h0).2;omega
   obtain ⟨os1,hos1⟩:∃ l,l=os:=⟨_,rfl⟩
   obtain ⟨ow1,how1⟩:∃ f,f=ow:=⟨_,rfl⟩
   have PK:PutK B T mb os ow id x w w.heap.size BX os1 ow1 o wz:=by rw [hos1,how1];exact PK
   clear hW4 hBX q4 hb4 hlk c0 hos1 how1 hf
  all_goals
   clear k3 hz3 q3 hH3 hT3
   obtain ⟨hA,hF,⟨hm,he⟩,hput,⟨hk1,hk2,hk3,hk4⟩,⟨hh1,hh2⟩,qb,qv,⟨zb,zv⟩⟩:=PK
   have hbx:=hA.ses o hm
   have hrw:=hA.row o hm
   have SP0:StP B ow1 (2 * o.d.id.toNat) o.p wz wz o.d.hi o.a o.c o.d.ks:=⟨⟨rfl,rfl,rfl,Nat.le_refl _,fun _ _ _ _=>rfl⟩,⟨(Array.getElem?_eq_some_iff.1 hbx.1).1,hbx.2⟩,hbx.1,hrw.1,fun g e=>.inl (hrw.2 g e)⟩
   have FD:=hid (zFind_any x.seq ⟨by omega,by omega⟩ hbx.1 hrw.1 (by omega) hk3 hk2)
   have hBX:=(Array.getElem?_eq_some_iff.1 qb).1
   have hVX:=(Array.getElem?_eq_some_iff.1 qv).1
   have hpos:=hA.pos o hm
   obtain ⟨j,hj⟩:∃ j,j=2 * o.d.id.toNat:=⟨_,rfl⟩
   rw [←hj] at SP0
   have hj0:0<j:=by omega
   have HFIN:=hid (show ∀ W hi' a' c' ks',StP B ow1 j o.p wz W hi' a' c' ks'→hi'=max o.d.hi x.seq→ks'=keepK (max o.d.hi x.seq-8) (insK o.d.ks x)→PutRet B T mb os ow id x w (.returned (.int .i64 0)) W from fun W hi' a' c' ks' t e1 e2=>by
    rw [hj] at t
    obtain ⟨ow',hA',hF'⟩:=hA.upd hm t
    refine ⟨by rw [HC0.out],_,ow',hA',?_,hF.trans hF'⟩
    rw [insL_d,←show putT (os.map SL.d) id x=putR (os.map SL.d) id x from by unfold putR;rw [if_pos HC0.out],←hput]
    congr 1
    unfold putS
    rw [e1,e2])
   have HQB:=hid qb;have HQV:=hid qv
   have HZB:=hid zb;have HZV:=hid zv
   have SP:=hid SP0
   have HBL:=hid (And.intro hBX hVX)
   have hBz:B≤wz.heap.size:=by have:=hA.lt;omega
   obtain ⟨b0,bf,bl⟩:=box1 qb
   clear hA hF hm he hput hk1 hbx hrw SP0 qb qv zb zv hpos hj HC0 HZ HH HI HB hb3
   go_upto_region 11 with (go_at_call 150;with_reducible refine mQ (FD.out) ?_;intro w10 hb10 hc10 hf10 hz10;intros)
   have SP1:=SP.out.below hb10
   clear b0 bf bl hc10 hf10 hz10 hBX hVX FD
   generalize hpl:plc o.d.ks x.seq=pl
   have HPL:=hid hpl
   generalize hnn:o.d.ks.length=n
   have HNN:=hid hnn
   have HROW:=hid (show Value.slice o.a n o.c=.slice o.a o.d.ks.length o.c from by rw [hnn])
   clear hpl hnn
   obtain ⟨Y0,hY0⟩:∃ Y:World,Y = { w10 with drawn:=w10.drawn+1 }:=⟨_,rfl⟩
   have hb0:Below w10.heap.size w10 Y0:=by rw [hY0];exact Below.drew (Below.refl _ _)
   have SPY:=hid (SP1.below hb0)
   have hBY:Hid (B≤Y0.heap.size):=hid (Nat.le_trans hBz SPY.out.tn.size)
   have HY0:=hid hY0
   have HINS:=hid (ins_any SPY.out hk4 hBY.out x)
   rw [HPL.out,HNN.out] at HINS
   clear hY0 hb0 SP1 hb10 SP
   refine wp_region_chainV [(0,fun _=>.pointer (some ⟨o.p,0,none⟩)),(0,fun _=>.pointer (some ⟨o.p,0,none⟩)),(0,fun _=>.pointer (some ⟨o.p,0,none⟩)),(0,fun _=>.pointer (some ⟨o.p,1,none⟩)),(0,fun _=>.slice o.a n o.c),(0,fun _=>.int .i64 pl),(0,fun _=>.int .i64 x.seq),(0,fun _=>.agg #[.int .i64 x.code,.int .i64 x.num]),(0,fun _=>.agg #[.int .i64 x.seq,.int .i64 x.code,.int .i64 x.num]),(1,fun ms=>ms.getD 0 undef),(2,fun ms=>ms.getD 1 undef),(0,fun _=>.pointer (some ⟨o.p,0,none⟩)),(0,fun _=>.pointer (some ⟨o.p,1,none⟩)),(3,fun _=>undef)] (InR B ow1 j o.p wz Y0 o.d.hi o.d.ks (.slice o.a n o.c) x) (fun _ _=>False) [9,10,13] rfl (by kernel_rfl) (by kernel_rfl) (by kernel_rfl) (by decide) (by decide) HY0.out.symm ?_ ?_ ?_
   ·simp only [StepsV,List.nil_append,List.cons_append,Nat.zero_add,Nat.reduceAdd]
    refine ⟨?_,?_,?_,?_,?_,?_,?_,?_,?_,?_,?_,?_,?_,?_,trivial⟩
    ·skip
     intro ms X g1 g2 hx
     obtain ⟨b0,bf,bl⟩:=box1 ((InR.free SPY.out HROW.out hx HBL.out.1 HZB.out hj0).trans HQB.out)
     refine mM ?_
     generalize hR:(fun v w'=>(_→v=_)∧_)=RR
     have HR:=hid hR
     have HXX:=hid hx
     clear hR g1 g2 hx
     try refine mV ?_
     go_wp2_with fail
     have hR:=HR.out
     subst hR
     exact ⟨rfl,fun _=>rfl,HXX.out⟩
    ·skip
     intro ms X g1 g2 hx
     obtain ⟨b0,bf,bl⟩:=box1 ((InR.free SPY.out HROW.out hx HBL.out.1 HZB.out hj0).trans HQB.out)
     refine mM ?_
     generalize hR:(fun v w'=>(_→v=_)∧_)=RR
     have HR:=hid hR
     have HXX:=hid hx
     clear hR g1 g2 hx
     try refine mV ?_
     go_wp2_with fail
     have hR:=HR.out
     subst hR
     exact ⟨rfl,fun _=>rfl,HXX.out⟩
    ·skip
     intro ms X g1 g2 hx
     refine mM ?_
     generalize hR:(fun v w'=>(_→v=_)∧_)=RR
     have HR:=hid hR
     have HXX:=hid hx
     clear hR g1 g2 hx
     try refine mV ?_
     go_wp2_with fail
     have hR:=HR.out
     subst hR
     exact ⟨rfl,fun _=>rfl,HXX.out⟩
    ·skip
     intro ms X g1 g2 hx
     refine mM ?_
     generalize hR:(fun v w'=>(_→v=_)∧_)=RR
     have HR:=hid hR
     have HXX:=hid hx
     clear hR g1 g2 hx
     try refine mV ?_
     go_wp2_with fail
     have hR:=HR.out
     subst hR
     exact ⟨rfl,fun _=>rfl,HXX.out⟩
    ·skip
     intro ms X g1 g2 hx
     have hl1:ms.length≤1:=Nat.le_trans g2 (by decide +kernel)
     have bx:=InR.box SPY.out hx hl1
     have hpX:=(Array.getElem?_eq_some_iff.1 bx).1
     obtain ⟨-,b1,-,-⟩:=box2 bx
     rw [HNN.out] at b1
     refine mM ?_
     generalize hR:(fun v w'=>(_→v=_)∧_)=RR
     have HR:=hid hR
     have HXX:=hid hx
     clear hR g1 g2 hx bx hl1
     try refine mV ?_
     go_wp2_with fail
     have hR:=HR.out
     subst hR
     exact ⟨rfl,fun _=>rfl,HXX.out⟩
    ·skip
     intro ms X g1 g2 hx
     refine mM ?_
     generalize hR:(fun v w'=>(_→v=_)∧_)=RR
     have HR:=hid hR
     have HXX:=hid hx
     clear hR g1 g2 hx
     try refine mV ?_
     go_wp2_with fail
     have hR:=HR.out
     subst hR
     exact ⟨rfl,fun _=>rfl,HXX.out⟩
    ·skip
     intro ms X g1 g2 hx
     refine mM ?_
     generalize hR:(fun v w'=>(_→v=_)∧_)=RR
     have HR:=hid hR
     have HXX:=hid hx
     clear hR g1 g2 hx
     try refine mV ?_
     go_wp2_with fail
     have hR:=HR.out
     subst hR
     exact ⟨rfl,fun _=>rfl,HXX.out⟩
    ·skip
     intro ms X g1 g2 hx
     have qv:=(InR.free SPY.out HROW.out hx HBL.out.2 HZV.out hj0).trans HQV.out
     have hVX:=(Array.getElem?_eq_some_iff.1 qv).1
     obtain ⟨b0,b1,-,-⟩:=box2 qv
     refine mM ?_
     generalize hR:(fun v w'=>(_→v=_)∧_)=RR
     have HR:=hid hR
     have HXX:=hid hx
     clear hR g1 g2 hx qv
     try refine mV ?_
     go_wp2_with fail
     have hR:=HR.out
     subst hR
     exact ⟨rfl,fun _=>rfl,HXX.out⟩
    ·skip
     intro ms X g1 g2 hx
     refine mM ?_
     generalize hR:(fun v w'=>(_→v=_)∧_)=RR
     have HR:=hid hR
     have HXX:=hid hx
     clear hR g1 g2 hx
     try refine mV ?_
     go_wp2_with fail
     have hR:=HR.out
     subst hR
     exact ⟨rfl,fun _=>rfl,HXX.out⟩
    ·skip
     intro ms X g1 g2 hx
     have hlk:ms.length=0:=Nat.le_antisymm (Nat.le_trans g2 (by decide +kernel)) (Nat.le_trans (by decide +kernel) g1)
     obtain rfl:=List.eq_nil_of_length_eq_zero hlk
     have hX:X=Y0:=hx
     refine mM ?_
     generalize hR:(fun v w'=>(_→v=_)∧_)=RR
     have HR2:=hid hR
     clear hR g1 g2 hlk hx
     refine mV ?_
     have HE:Hid (InR B ow1 j o.p wz Y0 o.d.hi o.d.ks (.slice o.a n o.c) x [.slice (some ⟨X.heap.size,0,none⟩) 1 1] (X.alloc (.cells #[.int .i64 x.seq,.int .i64 x.code,.int .i64 x.num] 262))):=hid (by rw [hX];exact ⟨rfl,rfl⟩)
     clear hX
     go_wp2_with fail
     have hR:=HR2.out
     subst hR
     exact ⟨rfl,fun _=>rfl,HE.out⟩
    ·skip
     intro ms X g1 g2 hx
     have hl:ms.length=1:=Nat.le_antisymm (Nat.le_trans g2 (by decide +kernel)) (Nat.le_trans (by decide +kernel) g1)
     obtain ⟨v0,rfl⟩:=P.ls1 hl
     obtain ⟨rfl,rfl⟩:=hx
     refine mM ?_
     generalize hR:(fun v w'=>(_→v=_)∧_)=RR
     have HR:=hid hR
     clear hR g1 g2 hl
     refine mV ?_
     have HC:=hid (HINS.out)
     go_wp2_with fail
     refine HC.out.mono ?_
     rintro e X2 ⟨v1,rfl,h1⟩
     have HE:Hid (InR B ow1 j o.p wz Y0 o.d.hi o.d.ks (.slice o.a n o.c) x [.slice (some ⟨Y0.heap.size,0,none⟩) 1 1,v1] X2):=hid (h1 _)
     clear HC
     go_wp2_with fail
     have hR:=HR.out
     subst hR
     exact ⟨rfl,fun _=>rfl,HE.out⟩
    ·skip
     intro ms X g1 g2 hx
     refine mM ?_
     generalize hR:(fun v w'=>(_→v=_)∧_)=RR
     have HR:=hid hR
     have HXX:=hid hx
     clear hR g1 g2 hx
     try refine mV ?_
     go_wp2_with fail
     have hR:=HR.out
     subst hR
     exact ⟨rfl,fun _=>rfl,HXX.out⟩
    ·skip
     intro ms X g1 g2 hx
     refine mM ?_
     generalize hR:(fun v w'=>(_→v=_)∧_)=RR
     have HR:=hid hR
     have HXX:=hid hx
     clear hR g1 g2 hx
     try refine mV ?_
     go_wp2_with fail
     have hR:=HR.out
     subst hR
     exact ⟨rfl,fun _=>rfl,HXX.out⟩
    ·skip
     intro ms X g1 g2 hx
     have hlk:ms.length=2:=Nat.le_antisymm (Nat.le_trans g2 (by decide +kernel)) (Nat.le_trans (by decide +kernel) g1)
     obtain ⟨v0,v1,rfl⟩:=ls2 hlk
     obtain ⟨a',c',rfl,hg,hr,ho⟩:=hx
     rw [HROW.out] at hg ho
     obtain ⟨bx,sp⟩:=SPY.out.rows (insK_len _ _) hg hr ho
     obtain ⟨k0,k1,f0,f1⟩:=box2 bx
     have hpX:=(Array.getElem?_eq_some_iff.1 bx).1
     refine mM ?_
     generalize hR:(fun v w'=>(_→v=_)∧_)=RR
     have HR2:=hid hR
     clear hR g1 g2 hlk hg hr ho bx
     refine mV ?_
     have HE:Hid (InR B ow1 j o.p wz Y0 o.d.hi o.d.ks (.slice o.a n o.c) x [v0,.slice a' (o.d.ks.length+1) c',undef] (X.setCell ⟨o.p,1,none⟩ (.slice a' (o.d.ks.length+1) c'))):=hid ⟨_,_,sp⟩
     clear sp
     go_wp2_with fail
     have hR:=HR2.out
     subst hR
     exact ⟨rfl,fun h=>absurd rfl h,HE.out⟩
   ·intro ms X hl hx
    obtain ⟨v0,v1,v2,rfl⟩:=ls3 hl
    obtain ⟨a',c',sp⟩:=hx
    refine mV ?_
    have hls:(insK o.d.ks x).length≤64:=by rw [insK_len];omega
    clear hl HINS SPY HY0 hk2 hk3 hk4 HPL HNN HROW hBY hBz
    generalize insK o.d.ks x=k1s at *
    obtain ⟨b0,bf,bl⟩:=box1 ((sp.free HBL.out.1 HZB.out hj0).trans HQB.out)
    obtain ⟨d0,d1,e0,e1⟩:=box2 sp.bx
    have hpX:=(Array.getElem?_eq_some_iff.1 sp.bx).1
    have SPX:=hid sp
    clear sp
    go_upto_region 12 with fail
    (refine wp_region_ext_tail 9 (by kernel_rfl) (by kernel_rfl) (by kernel_rfl) ?_;simp only [List.take_succ_cons,List.take_zero,List.drop_succ_cons,List.drop_zero];(repeat (go_big_quiet_step (first|fail)));refine mX ?_;intro w12 hb12 hc12 hf12 hz12;intros)
    have sp12:=SPX.out.below hb12
    clear b0 bf bl d0 d1 e0 e1 hpX hb12 hc12 hf12 hz12 SPX
    obtain ⟨d0,d1,e0,e1⟩:=box2 sp12.bx
    have hpX:=(Array.getElem?_eq_some_iff.1 sp12.bx).1
    have sp13:=sp12.high (max o.d.hi x.seq)
    have SPX:=hid sp13
    clear sp12 sp13
    go_upto_region 13 with fail
    obtain ⟨w13,hw13⟩:∃ W,W=w12.setCell ⟨o.p,0,none⟩ (.int .i64 (max o.d.hi x.seq)):=⟨_,rfl⟩
    rw [←hw13] at SPX ⊢
    obtain ⟨hmx,hhmx⟩:∃ v,v=max o.d.hi x.seq:=⟨_,rfl⟩
    have hmb:0≤hmx∧hmx≤1099511627776:=by omega
    have HMX:=hid hhmx
    rw [←hhmx] at SPX HFIN ⊢
    clear hw13 d0 d1 e0 e1 hpX hhmx
    obtain ⟨Y1,hY1⟩:∃ Y:World,Y = { w13 with drawn:=w13.drawn+1 }:=⟨_,rfl⟩
    have hb1:Below w13.heap.size w13 Y1:=by rw [hY1];exact Below.drew (Below.refl _ _)
    have SPY:=hid (SPX.out.below hb1)
    have HY1:=hid hY1
    have HDEL:=hid (del_any (m:=hmx-8) SPY.out hls ⟨HBL.out.1,HZB.out⟩ hj0 HQB.out rfl hmb)
    have hmf:∀ (fn:Fn) (first cap:Array Value) (w:World),(Instr.makeFunc fn first cap).run Tryz.prog w=.ok (.func fn first cap) w:=fun _ _ _ _=>rfl
    clear hY1 hb1 SPX
    refine wp_region_chainV [(0,fun _=>.pointer (some ⟨o.p,0,none⟩)),(0,fun _=>.pointer (some ⟨o.p,0,none⟩)),(0,fun _=>.pointer (some ⟨o.p,0,none⟩)),(0,fun _=>.pointer (some ⟨o.p,1,none⟩)),(0,fun _=>.slice a' k1s.length c'),(0,fun _=>.func (.func 153) #[] #[.pointer (some ⟨BX,0,none⟩)]),(1,fun ms=>ms.getD 0 undef),(0,fun _=>.pointer (some ⟨o.p,0,none⟩)),(0,fun _=>.pointer (some ⟨o.p,1,none⟩)),(2,fun _=>undef)] (DelR B ow1 j o.p wz Y1 hmx (hmx-8) k1s (.slice a' k1s.length c')) (fun _ _=>False) [6,9] rfl (by kernel_rfl) (by kernel_rfl) (by kernel_rfl) (by decide) (by decide) HY1.out.symm ?_ ?_ ?_
    ·simp only [StepsV,List.nil_append,List.cons_append,Nat.zero_add,Nat.reduceAdd]
     refine ⟨?_,?_,?_,?_,?_,?_,?_,?_,?_,?_,trivial⟩
     ·skip
      intro ms X g1 g2 hx
      obtain ⟨b0,bf,bl⟩:=box1 ((DelR.free SPY.out rfl hx HBL.out.1 HZB.out hj0).trans HQB.out)
      refine mM ?_
      generalize hR:(fun v w'=>(_→v=_)∧_)=RR
      have HR:=hid hR
      have HXX:=hid hx
      clear hR g1 g2 hx
      try refine mV ?_
      go_wp2_with fail
      have hR:=HR.out
      subst hR
      exact ⟨rfl,fun _=>rfl,HXX.out⟩
     ·skip
      intro ms X g1 g2 hx
      obtain ⟨b0,bf,bl⟩:=box1 ((DelR.free SPY.out rfl hx HBL.out.1 HZB.out hj0).trans HQB.out)
      refine mM ?_
      generalize hR:(fun v w'=>(_→v=_)∧_)=RR
      have HR:=hid hR
      have HXX:=hid hx
      clear hR g1 g2 hx
      try refine mV ?_
      go_wp2_with fail
      have hR:=HR.out
      subst hR
      exact ⟨rfl,fun _=>rfl,HXX.out⟩
     ·skip
      intro ms X g1 g2 hx
      refine mM ?_
      generalize hR:(fun v w'=>(_→v=_)∧_)=RR
      have HR:=hid hR
      have HXX:=hid hx
      clear hR g1 g2 hx
      try refine mV ?_
      go_wp2_with fail
      have hR:=HR.out
      subst hR
      exact ⟨rfl,fun _=>rfl,HXX.out⟩
     ·skip
      intro ms X g1 g2 hx
      refine mM ?_
      generalize hR:(fun v w'=>(_→v=_)∧_)=RR
      have HR:=hid hR
      have HXX:=hid hx
      clear hR g1 g2 hx
      try refine mV ?_
      go_wp2_with fail
      have hR:=HR.out
      subst hR
      exact ⟨rfl,fun _=>rfl,HXX.out⟩
     ·skip
      intro ms X g1 g2 hx
      have hl1:ms.length=0:=Nat.le_zero.1 (Nat.le_trans g2 (by decide +kernel))
      obtain rfl:=List.eq_nil_of_length_eq_zero hl1
      have bx:X.heap[o.p]? = _:=(show X=Y1 from hx) ▸ SPY.out.bx
      have hpX:=(Array.getElem?_eq_some_iff.1 bx).1
      obtain ⟨-,b1,-,-⟩:=box2 bx
      refine mM ?_
      generalize hR:(fun v w'=>(_→v=_)∧_)=RR
      have HR:=hid hR
      have HXX:=hid hx
      clear hR g1 g2 hx bx hl1
      try refine mV ?_
      go_wp2_with fail
      have hR:=HR.out
      subst hR
      exact ⟨rfl,fun _=>rfl,HXX.out⟩
     ·skip
      intro ms X g1 g2 hx
      refine mM ?_
      generalize hR:(fun v w'=>(_→v=_)∧_)=RR
      have HR:=hid hR
      have HXX:=hid hx
      clear hR g1 g2 hx
      try refine mV ?_
      go_wp2_with fail
      have hR:=HR.out
      subst hR
      exact ⟨rfl,fun _=>rfl,HXX.out⟩
     ·skip
      intro ms X g1 g2 hx
      have hl:ms.length=0:=Nat.le_antisymm (Nat.le_trans g2 (by decide +kernel)) (Nat.le_trans (by decide +kernel) g1)
      obtain rfl:=P.ls0 hl
      obtain rfl:X=Y1:=hx
      refine mM ?_
      generalize hR:(fun v w'=>(_→v=_)∧_)=RR
      have HR:=hid hR
      clear hR g1 g2 hl
      refine mV ?_
      have HC:=hid (HDEL.out)
      go_wp2_with fail
      refine HC.out.mono ?_
      rintro e X2 ⟨v1,rfl,h1⟩
      have HE:Hid (DelR B ow1 j o.p wz X hmx (hmx-8) k1s (.slice a' k1s.length c') [v1] X2):=hid (h1)
      clear HC
      go_wp2_with fail
      have hR:=HR.out
      subst hR
      exact ⟨rfl,fun _=>rfl,HE.out⟩
     ·skip
      intro ms X g1 g2 hx
      refine mM ?_
      generalize hR:(fun v w'=>(_→v=_)∧_)=RR
      have HR:=hid hR
      have HXX:=hid hx
      clear hR g1 g2 hx
      try refine mV ?_
      go_wp2_with fail
      have hR:=HR.out
      subst hR
      exact ⟨rfl,fun _=>rfl,HXX.out⟩
     ·skip
      intro ms X g1 g2 hx
      refine mM ?_
      generalize hR:(fun v w'=>(_→v=_)∧_)=RR
      have HR:=hid hR
      have HXX:=hid hx
      clear hR g1 g2 hx
      try refine mV ?_
      go_wp2_with fail
      have hR:=HR.out
      subst hR
      exact ⟨rfl,fun _=>rfl,HXX.out⟩
     ·skip
      intro ms X g1 g2 hx
      have hlk:ms.length=1:=Nat.le_antisymm (Nat.le_trans g2 (by decide +kernel)) (Nat.le_trans (by decide +kernel) g1)
      obtain ⟨v0,rfl⟩:=ls1 hlk
      obtain ⟨a2,c2,rfl,hg,hr,ho⟩:=hx
      obtain ⟨bx,sp⟩:=SPY.out.rows rfl hg hr (.inl ho)
      obtain ⟨k0,k1,f0,f1⟩:=box2 bx
      have hpX:=(Array.getElem?_eq_some_iff.1 bx).1
      refine mM ?_
      generalize hR:(fun v w'=>(_→v=_)∧_)=RR
      have HR2:=hid hR
      clear hR g1 g2 hlk hg hr ho bx
      refine mV ?_
      have HE:Hid (DelR B ow1 j o.p wz Y1 hmx (hmx-8) k1s (.slice a' k1s.length c') [.slice a2 (keepK (hmx-8) k1s).length c2,undef] (X.setCell ⟨o.p,1,none⟩ (.slice a2 (keepK (hmx-8) k1s).length c2))):=hid ⟨_,_,sp⟩
      clear sp
      go_wp2_with fail
      have hR:=HR2.out
      subst hR
      exact ⟨rfl,fun h=>absurd rfl h,HE.out⟩
    ·intro ms X hl hx
     obtain ⟨v0,v1,rfl⟩:=ls2 hl
     obtain ⟨a2,c2,sp⟩:=hx
     have HF:=hid (HFIN.out X _ _ _ _ sp rfl rfl)
     refine mV ?_
     clear hl HDEL SPY HY1 sp
     go_wp2_with fail
     go_ret
     exact HF.out
    ·exact fun _ _ _ _ h=>h.elim
   ·exact fun _ _ _ _ h=>h.elim

end Go.Proofs.YtdeeoddacnealaaGreat.Z