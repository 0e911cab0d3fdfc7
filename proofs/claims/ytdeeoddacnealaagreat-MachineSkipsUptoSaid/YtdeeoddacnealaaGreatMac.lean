/- Long scripts that many walks share, as lemmas whose premise is found by the script. -/
import Derived.Test.YtdeeoddacnealaaGreatQ0
import Derived.WalkKit
import Derived.WalkLawsBesides
import Derived.WalkSpells
import Derived.Deep.QuietTactic
import Derived.BigQuiet
set_option linter.unusedVariables false
namespace Go.Proofs.YtdeeoddacnealaaGreat
open Go.RowKit

structure Wrp (Q:Prop):Prop where out:Q
theorem below_auto {P:Prop} (h:P:=by (repeat (first|with_reducible exact Below.refl _ _|((with_reducible refine Below.alloc1 ?_ ?_ _);(· first|omega|(simp;done)|(simp;omega)))|(with_reducible refine Below.drew ?_)|(with_reducible refine below_drewN' ?_ _)|((with_reducible refine Below.setCell1 ?_ ?_ _);(· first|omega|(simp;done)|(simp;omega)))|((with_reducible refine Below.after (by assumption) ?_ ?_);(· first|omega|(simp;done)|(simp;omega)))))):P:=h
theorem lt_auto {P:Prop} (h:P:=by first|assumption|(simp;done)|(simp;omega)):P:=h
theorem yA {n X Y:Nat} (hz:X≤Y) (h:n<X:=by omega):n<Y:=Nat.lt_of_lt_of_le h hz
theorem yB {n X Y:Nat} (hz:X≤Y) (h:n≤X:=by omega):n≤Y:=Nat.le_trans h hz
theorem mB {A P Q:Prop} (hb:A) (h2:Q) (h1:A→Wrp Q→P:=by
 intro hb hq
 have hz:=hb.size
 obtain ⟨hc,hf⟩:=bcell hb
 (try simp only [qD,qE,qF] at hc hf)
 (try simp at hz)
 (try have hy0:=yA (n:=w.heap.size) hz)
 (try have hy1:=yA (n:=w.heap.size+1) hz)
 (try have hy2:=yA (n:=w.heap.size+2) hz)
 (try have hy3:=yA (n:=w.heap.size+3) hz)
 (try have hx0:=yB (n:=w.heap.size) hz)
 (try have hx1:=yB (n:=w.heap.size+1) hz)
 (try have hx2:=yB (n:=w.heap.size+2) hz)
 (try revert hx2)
 (try revert hx1)
 (try revert hx0)
 (try revert hy3)
 (try revert hy2)
 (try revert hy1)
 (try revert hy0)
 revert hz
 revert hf
 revert hc
 exact hq.out):P:=h1 hb ⟨h2⟩
theorem mZ {A P Q:Prop} (hb:A) (h2:Q) (h1:A→Wrp Q→P:=by
 intro hb hq
 have hz:=hb.size
 (try simp at hz)
 (try have hy0:=yA (n:=w.heap.size) hz)
 (try have hy1:=yA (n:=w.heap.size+1) hz)
 (try have hy2:=yA (n:=w.heap.size+2) hz)
 (try have hy3:=yA (n:=w.heap.size+3) hz)
 (try have hx0:=yB (n:=w.heap.size) hz)
 (try have hx1:=yB (n:=w.heap.size+1) hz)
 (try have hx2:=yB (n:=w.heap.size+2) hz)
 (try revert hx2)
 (try revert hx1)
 (try revert hx0)
 (try revert hy3)
 (try revert hy2)
 (try revert hy1)
 (try revert hy0)
 revert hz
 exact hq.out):P:=h1 hb ⟨h2⟩
theorem mX {P Q:Prop} (h2:Q) (h1:Wrp Q→P:=by
 intro hq
 refine wpQuiet_nil ?_
 rintro w9 ⟨x9,hx9⟩
 have hb:=x9.b
 rw [←hx9] at hb
 clear hx9 x9
 have hz:=hb.size
 obtain ⟨hc,hf⟩:=bcell hb
 (try simp only [qD,qE,qF] at hc hf)
 (try simp at hz)
 (try have hy0:=yA (n:=w.heap.size) hz)
 (try have hy1:=yA (n:=w.heap.size+1) hz)
 (try have hy2:=yA (n:=w.heap.size+2) hz)
 (try have hy3:=yA (n:=w.heap.size+3) hz)
 (try have hx0:=yB (n:=w.heap.size) hz)
 (try have hx1:=yB (n:=w.heap.size+1) hz)
 (try have hx2:=yB (n:=w.heap.size+2) hz)
 (try revert hx2)
 (try revert hx1)
 (try revert hx0)
 (try revert hy3)
 (try revert hy2)
 (try revert hy1)
 (try revert hy0)
 revert hz
 revert hf
 revert hc
 revert hb
 revert w9
 exact hq.out):P:=h1 ⟨h2⟩
theorem mH {P Q:Prop} (h2:Q) (h1:Wrp Q→P:=by
 intro hq
 (try (simp [Region.binds,Note.phi,cellsAre] at hd))
 revert hd
 (try simp only [putsFrom,Act.put,qA,qB,qC,Nat.zero_add,Nat.reduceAdd])
 exact hq.out):P:=h1 ⟨h2⟩
theorem mG {P Q:Prop} (h2:Q) (h1:Wrp Q→P:=by
 intro hq
 (first|refine StepG.run rfl ?_|refine StepG.on rfl rfl ?_)
 (try dsimp only)
 intro u w9 hb hd
 (try (simp [Region.binds,Note.phi] at hd))
 (try simp only [putsFrom,Act.put,qA,qB,qC,Nat.zero_add,Nat.reduceAdd])
 (try simp only [hd])
 revert hd
 (try simp only [and_imp])
 revert hb
 revert w9
 revert u
 exact hq.out):P:=h1 ⟨h2⟩
theorem mGq {P:Prop} (h:P:=by
 (first|refine StepG.run rfl ?_|refine StepG.on rfl rfl ?_)
 (try dsimp only)
 intro u w9 hb hd
 (try (simp [Region.binds,Note.phi] at hd))
 (try simp only [putsFrom,Act.put,qA,qB,qC,Nat.zero_add,Nat.reduceAdd])
 (try simp only [hd])
 revert hd
 (try simp only [and_imp])
 intros
 obtain ⟨hc,hf⟩:=bcell hb
 have hz:=hb.size
 go_wp2_with fail
 exact ⟨rfl,Below.refl _ _,rfl⟩):P:=h
theorem mP {P Q:Prop} (h2:Q) (h1:Wrp Q→P:=by
 intro hq
 simp only [List.length_cons,List.length_nil,List.take_succ_cons,List.take_zero,List.drop_succ_cons,List.drop_zero,putsFrom,Act.put,qA,qB,qC,Nat.zero_add,Nat.reduceAdd]
 exact hq.out):P:=h1 ⟨h2⟩
theorem mV {P Q:Prop} (h2:Q) (h1:Wrp Q→P:=by
 intro hq
 (try simp only [putsFrom,Act.put,qA,qB,qC,Nat.zero_add,Nat.reduceAdd,uv,List.getElem?_cons_zero,List.getElem?_cons_succ,List.take_succ_cons,List.take_zero,List.getD_cons_zero,List.getD_cons_succ])
 exact hq.out):P:=h1 ⟨h2⟩
theorem mM {P Q:Prop} (h2:Q) (h1:Wrp Q→P:=by
 intro hq
 simp only [moreV,gotV,List.mem_cons,List.not_mem_nil,Nat.reduceEqDiff,or_false,or_true,or_self,if_true,if_false,Option.isNone_some,Option.isNone_none,Bool.false_eq_true,List.nil_append,List.cons_append]
 exact hq.out):P:=h1 ⟨h2⟩

end Go.Proofs.YtdeeoddacnealaaGreat