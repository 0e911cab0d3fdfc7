/- Plain laws of rows of forms: rising ones that don't touch are told by their keys. -/
import Derived.Test.YtdeeoddacnealaaGreatMQ
set_option linter.unusedVariables false
namespace Go.Proofs.YtdeeoddacnealaaGreat
open Go.RowKit Fl

def gapped (l:List RK):Prop:=l.Pairwise fun x y=>x.hi.v+1<y.lo.v
def covL (l:List RK) (v:Int):Prop:=∃ x∈l,x.lo.v≤v∧v≤x.hi.v
theorem covL_cons {x:RK} {l:List RK} {v:Int}:covL (x :: l) v↔(x.lo.v≤v∧v≤x.hi.v)∨covL l v:=by
 unfold covL
 constructor
 ·rintro ⟨y,hy,h⟩
  rcases List.mem_cons.1 hy with rfl|hy
  ·exact .inl h
  ·exact .inr ⟨y,hy,h⟩
 ·rintro (h|⟨y,hy,h⟩)
  ·exact ⟨x,by simp,h⟩
  ·exact ⟨y,by simp [hy],h⟩
theorem covL_nil (v:Int):¬covL [] v:=fun ⟨_,h,_⟩=>by cases h
theorem covL_append {l l':List RK} {v:Int}:covL (l++l') v↔covL l v∨covL l' v:=by
 unfold covL
 constructor
 ·rintro ⟨y,hy,h⟩
  rcases List.mem_append.1 hy with hy|hy
  ·exact .inl ⟨y,hy,h⟩
  ·exact .inr ⟨y,hy,h⟩
 ·rintro (⟨y,hy,h⟩|⟨y,hy,h⟩)
  ·exact ⟨y,by simp [hy],h⟩
  ·exact ⟨y,by simp [hy],h⟩
theorem gapped_far {x:RK} {l:List RK} (h:gapped (x :: l)) {v:Int} (hv:covL l v):x.hi.v+1<v:=by
 obtain ⟨y,hy,h1,_⟩:=hv
 have:=(List.pairwise_cons.1 h).1 y hy
 omega
theorem gapped_ext:∀ {l l':List RK},gapped l→gapped l'→(∀ v,covL l v↔covL l' v)→l=l'
 | [],[],_,_,_=>rfl
 | [],y :: t',_,_,h=>absurd ((h y.lo.v).2 (covL_cons.2 (.inl ⟨Int.le_refl _,y.le⟩))) (covL_nil _)
 | x :: t,[],_,_,h=>absurd ((h x.lo.v).1 (covL_cons.2 (.inl ⟨Int.le_refl _,x.le⟩))) (covL_nil _)
 | x :: t,y :: t',h1,h2,h=>by
  have hx:=x.le
  have hy:=y.le
  have low:∀ (a b:RK) (s s':List RK),gapped (b :: s')→covL (b :: s') a.lo.v→b.lo.v≤a.lo.v:=fun a b s s' hg hc=>by
   rcases covL_cons.1 hc with h3|h3
   ·exact h3.1
   ·have:=gapped_far hg h3;have:=b.le;omega
  have e1:y.lo.v≤x.lo.v:=low x y t t' h2 ((h _).1 (covL_cons.2 (.inl ⟨Int.le_refl _,hx⟩)))
  have e2:x.lo.v≤y.lo.v:=low y x t' t h1 ((h _).2 (covL_cons.2 (.inl ⟨Int.le_refl _,hy⟩)))
  have top:∀ (a b:RK) (s s':List RK),a.lo.v=b.lo.v→gapped (a :: s)→(∀ v,covL (b :: s') v→covL (a :: s) v)→b.hi.v≤a.hi.v:=fun a b s s' e hg hc=>by
   apply Int.not_lt.1
   intro hlt
   have:=a.le
   rcases covL_cons.1 (hc (a.hi.v+1) (covL_cons.2 (.inl ⟨by omega,by omega⟩))) with h3|h3
   ·omega
   ·have:=gapped_far hg h3;omega
  have e3:=top x y t t' (by omega) h1 fun v=>(h v).2
  have e4:=top y x t' t (by omega) h2 fun v=>(h v).1
  have e:x=y:=RK.ext' (Key.ext' (by omega)) (Key.ext' (by omega))
  subst e
  congr 1
  refine gapped_ext (List.pairwise_cons.1 h1).2 (List.pairwise_cons.1 h2).2 fun v=>⟨fun hv=>?_,fun hv=>?_⟩
  ·have h3:=gapped_far h1 hv
   rcases covL_cons.1 ((h v).1 (covL_cons.2 (.inr hv))) with h4|h4
   ·omega
   ·exact h4
  ·have h3:=gapped_far h2 hv
   rcases covL_cons.1 ((h v).2 (covL_cons.2 (.inr hv))) with h4|h4
   ·omega
   ·exact h4

def joinL:List RK→RK→List RK
 | [],s=>[s]
 | [x],s=>if x.hi.v+1<s.lo.v then [x,s] else [⟨if s.lo.v<x.lo.v then s.lo else x.lo,if x.hi.v<s.hi.v then s.hi else x.hi,by have:=x.le;have:=s.le;split <;> split <;> omega⟩]
 | x :: y :: t,s=>x :: joinL (y :: t) s

theorem joinL_spec:∀ (l:List RK) (s:RK),gapped l→(∀ x∈l,x.lo.v≤s.lo.v) →
  gapped (joinL l s)∧(∀ v,covL (joinL l s) v↔covL l v∨(s.lo.v≤v∧v≤s.hi.v))∧(∀ x∈joinL l s,x.lo.v≤s.lo.v)∧∀ b:Int,(∀ x∈l,b<x.lo.v)→b<s.lo.v→∀ x∈joinL l s,b<x.lo.v
 | [],s,_,_=>by
  refine ⟨List.pairwise_singleton _ _,fun v=>?_,fun x hx=>?_,fun b _ hb x hx=>?_⟩
  ·show covL [s] v↔_
   rw [covL_cons]
   constructor
   ·rintro (h|h)
    ·exact .inr h
    ·exact absurd h (covL_nil v)
   ·rintro (h|h)
    ·exact absurd h (covL_nil v)
    ·exact .inl h
  ·rw [List.mem_singleton.1 hx];exact Int.le_refl _
  ·rw [List.mem_singleton.1 hx];exact hb
 | [x],s,_,hle=>by
  have h1:=hle x (by simp)
  have hx:=x.le
  have hs:=s.le
  unfold joinL
  by_cases hg:x.hi.v+1<s.lo.v
  ·rw [if_pos hg]
   refine ⟨by unfold gapped;simp;exact hg,fun v=>?_,fun y hy=>?_,fun b hb hb' y hy=>?_⟩
   ·rw [covL_cons,covL_cons,covL_cons]
    have:=covL_nil v
    constructor
    ·rintro (h|h|h)
     ·exact .inl (.inl h)
     ·exact .inr h
     ·exact absurd h this
    ·rintro ((h|h)|h)
     ·exact .inl h
     ·exact absurd h this
     ·exact .inr (.inl h)
   ·simp only [List.mem_cons,List.not_mem_nil,or_false] at hy
    rcases hy with rfl|rfl
    ·exact h1
    ·exact Int.le_refl _
   ·simp only [List.mem_cons,List.not_mem_nil,or_false] at hy
    rcases hy with rfl|rfl
    ·exact hb _ (by simp)
    ·exact hb'
  ·rw [if_neg hg]
   have e1:(if s.lo.v<x.lo.v then s.lo else x.lo)=x.lo:=if_neg (by omega)
   refine ⟨List.pairwise_singleton _ _,fun v=>?_,fun y hy=>?_,fun b hb hb' y hy=>?_⟩
   ·rw [covL_cons,covL_cons]
    have hn:=covL_nil v
    simp only [e1]
    by_cases h2:x.hi.v<s.hi.v
    ·simp only [if_pos h2]
     constructor
     ·rintro (h|h)
      ·by_cases h3:v≤x.hi.v
       ·exact .inl (.inl ⟨h.1,h3⟩)
       ·exact .inr ⟨by omega,h.2⟩
      ·exact absurd h hn
     ·rintro ((h|h)|h)
      ·exact .inl ⟨h.1,by omega⟩
      ·exact absurd h hn
      ·exact .inl ⟨by omega,h.2⟩
    ·simp only [if_neg h2]
     constructor
     ·rintro (h|h)
      ·exact .inl (.inl h)
      ·exact absurd h hn
     ·rintro ((h|h)|h)
      ·exact .inl h
      ·exact absurd h hn
      ·exact .inl ⟨by omega,by omega⟩
   ·rw [List.mem_singleton.1 hy];simp only [e1];exact h1
   ·rw [List.mem_singleton.1 hy];simp only [e1];exact hb _ (by simp)
 | x :: y :: t,s,hg,hle=>by
  obtain ⟨g1,g2⟩:=List.pairwise_cons.1 hg
  obtain ⟨a,b,c,d⟩:=joinL_spec (y :: t) s g2 fun z hz=>hle z (by simp [List.mem_cons.1 hz])
  show gapped (x :: joinL (y :: t) s)∧(∀ v,covL (x :: joinL (y :: t) s) v↔_)∧(∀ z∈x :: joinL (y :: t) s,_)∧∀ b:Int,_→_→∀ z∈x :: joinL (y :: t) s,_
  refine ⟨List.pairwise_cons.2 ⟨d _ g1 ?_,a⟩,fun v=>?_,fun z hz=>?_,fun b hb hb' z hz=>?_⟩
  ·have h1:=g1 y (by simp)
   have h2:=hle y (by simp)
   omega
  ·rw [covL_cons,b v,covL_cons (l:=y :: t)]
   constructor
   ·rintro (h|h|h)
    ·exact .inl (.inl h)
    ·exact .inl (.inr h)
    ·exact .inr h
   ·rintro ((h|h)|h)
    ·exact .inl h
    ·exact .inr (.inl h)
    ·exact .inr (.inr h)
  ·rcases List.mem_cons.1 hz with rfl|hz
   ·exact hle _ (by simp)
   ·exact c z hz
  ·rcases List.mem_cons.1 hz with rfl|hz
   ·exact hb _ (by simp)
   ·exact d b (fun q hq=>hb q (by simp [List.mem_cons.1 hq])) hb' z hz

def risesLo (l:List RK):Prop:=l.Pairwise fun x y=>x.lo.v≤y.lo.v
def joinAll (acc l:List RK):List RK:=l.foldl joinL acc
theorem joinAll_spec:∀ (l acc:List RK),gapped acc→risesLo l→(∀ x∈acc,∀ y∈l,x.lo.v≤y.lo.v)→gapped (joinAll acc l)∧∀ v,covL (joinAll acc l) v↔covL acc v∨covL l v
 | [],acc,hg,_,_=>⟨hg,fun v=>⟨.inl,fun h=>h.resolve_right (covL_nil v)⟩⟩
 | s :: l,acc,hg,hr,hle=>by
  obtain ⟨r1,r2⟩:=List.pairwise_cons.1 hr
  obtain ⟨a,b,c,_⟩:=joinL_spec acc s hg fun x hx=>hle x hx s (by simp)
  obtain ⟨h1,h2⟩:=joinAll_spec l (joinL acc s) a r2 fun x hx y hy=>Int.le_trans (c x hx) (r1 y hy)
  refine ⟨h1,fun v=>?_⟩
  show covL (joinAll (joinL acc s) l) v↔_
  rw [h2,b,covL_cons]
  constructor
  ·rintro ((h|h)|h)
   ·exact .inl h
   ·exact .inr (.inl h)
   ·exact .inr (.inr h)
  ·rintro (h|h|h)
   ·exact .inl (.inl h)
   ·exact .inl (.inr h)
   ·exact .inr h
theorem covL_perm {l l':List RK} (h:∀ x,x∈l↔x∈l') (v:Int):covL l v↔covL l' v :=
 ⟨fun ⟨x,hx,hv⟩=>⟨x,(h x).1 hx,hv⟩,fun ⟨x,hx,hv⟩=>⟨x,(h x).2 hx,hv⟩⟩

def touch (a b:RK):Prop:=¬(a.hi.v+1<b.lo.v∨b.hi.v+1<a.lo.v)
instance (a b:RK):Decidable (touch a b):=inferInstanceAs (Decidable (¬_))
def join2 (a b:RK):RK:=⟨if b.lo.v<a.lo.v then b.lo else a.lo,if a.hi.v<b.hi.v then b.hi else a.hi,by have:=a.le;have:=b.le;split <;> split <;> omega⟩
theorem join2_lo (a b:RK):(join2 a b).lo.v=min a.lo.v b.lo.v:=by simp only [join2];split <;> omega
theorem join2_hi (a b:RK):(join2 a b).hi.v=max a.hi.v b.hi.v:=by simp only [join2];split <;> omega
def absStep (p:RK×List RK) (a:RK):RK×List RK:=if touch a p.1 then (join2 a p.1,p.2) else (p.1,p.2++[a])
def absorb (p:RK×List RK) (out:List RK):RK×List RK:=out.foldl absStep p
def clearOf (left:List RK) (r:RK):Prop:=∀ a∈left,a.hi.v+1<r.lo.v∨r.hi.v+1<a.lo.v
theorem absorb_spec:∀ (out:List RK) (r:RK) (left:List RK),gapped (left++out)→clearOf left r →
  gapped (absorb (r,left) out).2∧clearOf (absorb (r,left) out).2 (absorb (r,left) out).1∧∀ v,(covL (absorb (r,left) out).2 v∨((absorb (r,left) out).1.lo.v≤v∧v≤(absorb (r,left) out).1.hi.v))↔(covL (left++out) v∨(r.lo.v≤v∧v≤r.hi.v))
 | [],r,left,hg,hc=>by
  rw [List.append_nil] at *
  exact ⟨hg,hc,fun v=>Iff.rfl⟩
 | a :: out,r,left,hg,hc=>by
  have ha:=a.le
  have hr:=r.le
  have hla:∀ c∈left,c.hi.v+1<a.lo.v:=fun c hcm=>(List.pairwise_append.1 hg).2.2 c hcm a (by simp)
  show gapped (absorb (absStep (r,left) a) out).2∧clearOf (absorb (absStep (r,left) a) out).2 (absorb (absStep (r,left) a) out).1∧_
  have e0:absorb (r,left) (a :: out)=absorb (absStep (r,left) a) out:=rfl
  by_cases ht:touch a r
  ·have e:absStep (r,left) a=(join2 a r,left):=by unfold absStep;rw [if_pos ht]
   rw [e0,e]
   have hg':gapped (left++out):=hg.sublist (List.Sublist.append (List.Sublist.refl _) (List.sublist_cons_self _ _))
   have hc':clearOf left (join2 a r):=fun c hcm=>by
    have h1:=hla c hcm
    have h2:=c.le
    rw [join2_lo,join2_hi]
    unfold touch at ht
    rcases hc c hcm with h|h
    ·exact .inl (by omega)
    ·exact absurd (.inr (by omega)) ht
   obtain ⟨h1,h2,h3⟩:=absorb_spec out (join2 a r) left hg' hc'
   refine ⟨h1,h2,fun v=>?_⟩
   rw [h3,covL_append,covL_append,covL_cons,join2_lo,join2_hi]
   unfold touch at ht
   constructor
   ·rintro ((h|h)|h)
    ·exact .inl (.inl h)
    ·exact .inl (.inr (.inr h))
    ·by_cases h4:a.lo.v≤v∧v≤a.hi.v
     ·exact .inl (.inr (.inl h4))
     ·exact .inr (by omega)
   ·rintro ((h|h|h)|h)
    ·exact .inl (.inl h)
    ·exact .inr (by omega)
    ·exact .inl (.inr h)
    ·exact .inr (by omega)
  ·have e:absStep (r,left) a=(r,left++[a]):=by unfold absStep;rw [if_neg ht]
   rw [e0,e]
   have hg':gapped ((left++[a])++out):=by rw [List.append_assoc];exact hg
   have hc':clearOf (left++[a]) r:=fun c hcm=>by
    rcases List.mem_append.1 hcm with h|h
    ·exact hc c h
    ·rw [List.mem_singleton.1 h]
     unfold touch at ht
     omega
   obtain ⟨h1,h2,h3⟩:=absorb_spec out r (left++[a]) hg' hc'
   refine ⟨h1,h2,fun v=>?_⟩
   rw [h3,List.append_assoc];rfl
def insLo:List RK→RK→List RK
 | [],r=>[r]
 | x :: t,r=>if r.lo.v<x.lo.v then r :: x :: t else x :: insLo t r
theorem insLo_spec:∀ (l:List RK) (r:RK),gapped l→clearOf l r→gapped (insLo l r)∧(∀ v,covL (insLo l r) v↔covL l v∨(r.lo.v≤v∧v≤r.hi.v))∧∀ b:Int,(∀ x∈l,b<x.lo.v)→b<r.lo.v→∀ x∈insLo l r,b<x.lo.v
 | [],r,_,_=>by
  refine ⟨List.pairwise_singleton _ _,fun v=>?_,fun b _ hb x hx=>?_⟩
  ·show covL [r] v↔_
   rw [covL_cons]
   exact ⟨fun h=>h.elim .inr .inl,fun h=>h.elim .inr .inl⟩
  ·rw [List.mem_singleton.1 hx];exact hb
 | x :: t,r,hg,hc=>by
  obtain ⟨g1,g2⟩:=List.pairwise_cons.1 hg
  have hx:=x.le
  have hr:=r.le
  unfold insLo
  by_cases h:r.lo.v<x.lo.v
  ·rw [if_pos h]
   have h1:r.hi.v+1<x.lo.v:=by
    rcases hc x (by simp) with h2|h2
    ·omega
    ·exact h2
   refine ⟨List.pairwise_cons.2 ⟨fun y hy=>?_,hg⟩,fun v=>?_,fun b hb hb' y hy=>?_⟩
   ·rcases List.mem_cons.1 hy with rfl|hy
    ·exact h1
    ·have:=g1 y hy;omega
   ·rw [covL_cons]
    exact ⟨fun h=>h.elim .inr .inl,fun h=>h.elim .inr .inl⟩
   ·rcases List.mem_cons.1 hy with rfl|hy
    ·exact hb'
    ·exact hb y hy
  ·rw [if_neg h]
   have h1:x.hi.v+1<r.lo.v:=by
    rcases hc x (by simp) with h2|h2
    ·exact h2
    ·omega
   obtain ⟨a,b,c⟩:=insLo_spec t r g2 fun y hy=>hc y (by simp [hy])
   refine ⟨List.pairwise_cons.2 ⟨c _ g1 h1,a⟩,fun v=>?_,fun d hb hb' y hy=>?_⟩
   ·rw [covL_cons,b,covL_cons]
    constructor
    ·rintro (h|h|h)
     ·exact .inl (.inl h)
     ·exact .inl (.inr h)
     ·exact .inr h
    ·rintro ((h|h)|h)
     ·exact .inl h
     ·exact .inr (.inl h)
     ·exact .inr (.inr h)
   ·rcases List.mem_cons.1 hy with rfl|hy
    ·exact hb _ (by simp)
    ·exact c d (fun z hz=>hb z (by simp [hz])) hb' y hy
def refStep (out:List RK) (r:RK):List RK:=insLo (absorb (r,[]) out).2 (absorb (r,[]) out).1
theorem refStep_spec (out:List RK) (r:RK) (hg:gapped out):gapped (refStep out r)∧∀ v,covL (refStep out r) v↔covL out v∨(r.lo.v≤v∧v≤r.hi.v):=by
 obtain ⟨h1,h2,h3⟩:=absorb_spec out r [] hg fun _ h=>by cases h
 obtain ⟨h4,h5,_⟩:=insLo_spec _ _ h1 h2
 refine ⟨h4,fun v=>?_⟩
 unfold refStep
 rw [h5,h3];rfl
def refAllN (out l:List RK):List RK:=l.foldl refStep out
theorem refAllN_spec:∀ (l out:List RK),gapped out→gapped (refAllN out l)∧∀ v,covL (refAllN out l) v↔covL out v∨covL l v
 | [],out,hg=>⟨hg,fun v=>⟨.inl,fun h=>h.resolve_right (covL_nil v)⟩⟩
 | r :: l,out,hg=>by
  obtain ⟨a,b⟩:=refStep_spec out r hg
  obtain ⟨h1,h2⟩:=refAllN_spec l (refStep out r) a
  refine ⟨h1,fun v=>?_⟩
  show covL (refAllN (refStep out r) l) v↔_
  rw [h2,b,covL_cons]
  constructor
  ·rintro ((h|h)|h)
   ·exact .inl h
   ·exact .inr (.inl h)
   ·exact .inr (.inr h)
  ·rintro (h|h|h)
   ·exact .inl (.inl h)
   ·exact .inl (.inr h)
   ·exact .inr h
theorem norm_same {l s:List RK} (hp:∀ x,x∈s↔x∈l) (hr:risesLo s):joinAll [] s=refAllN [] l:=by
 obtain ⟨h1,h2⟩:=joinAll_spec s [] List.Pairwise.nil hr fun _ h=>by cases h
 obtain ⟨h3,h4⟩:=refAllN_spec l [] List.Pairwise.nil
 exact gapped_ext h1 h3 fun v=>by rw [h2,h4,covL_perm hp]

end Go.Proofs.YtdeeoddacnealaaGreat