/- Several texts as one: B0 B1. -/
import Derived.Test.YtdeeoddacnealaaGreatMC0
import Derived.Test.YtdeeoddacnealaaGreatMNL
set_option linter.unusedVariables false
set_option linter.unusedSimpArgs false
namespace Go.Proofs.YtdeeoddacnealaaGreat
open Go.RowKit Fl

theorem maxFunc_two (k l:Key) (b o:Nat) (w:World) (h1:w.cell? ⟨b,o,none⟩=some (.float .f64 k.bits)) (h2:w.cell? ⟨b,o+1,none⟩=some (.float .f64 l.bits)) :
  Calls Tryz.prog 261 #[.slice (some ⟨b,o,none⟩) 2 2,.func (.func 214) #[] #[]] w fun e w'=>e=.returned (.float .f64 (kMost k l).bits)∧w=w':=by
 go_enter Tryz.func261,Tryz.ntmps261
 go_wp2_with fail
 go_loop [5,6] (fun m i=>(i=.int .i64 1∧m=.float .f64 k.bits)∨(i=.int .i64 2∧m=.float .f64 (kMost k l).bits)) (fun _ i=>2-(intOf i).toNat)
 case atStart=>exact .inl ⟨rfl,rfl⟩
 case round =>
  rcases hrel with ⟨rfl,rfl⟩|⟨rfl,rfl⟩
  ·by_cases hc:k.v<l.v
   ·have e:kMost k l=l:=by simp [kMost,hc]
    have ht:decide (0<cmpI l.v k.v)=true:=by unfold cmpI;simp only [decide_eq_true_eq];split <;> (try split) <;> omega
    rw [e]
    clear e hc
    go_wp2_with (go_at_call 214;(with_reducible refine (floCmp_keys _ _ _).mono ?_);rintro e w' ⟨rfl,rfl⟩)
    go_round
    case rel=>exact .inr ⟨rfl,rfl⟩
    case measure=>simp [intOf]
   ·have e:kMost k l=k:=by simp [kMost,hc]
    have ht:decide (0<cmpI l.v k.v)=false:=by
     have hc':¬k.v<l.v:=hc
     unfold cmpI
     simp only [decide_eq_false_iff_not]
     split <;> (try split) <;> omega
    rw [e]
    clear e hc
    go_wp2_with (go_at_call 214;(with_reducible refine (floCmp_keys _ _ _).mono ?_);rintro e w' ⟨rfl,rfl⟩)
    go_round
    case rel=>exact .inr ⟨rfl,rfl⟩
    case measure=>simp [intOf]
  ·go_wp2
   go_ret
   exact ⟨rfl,rfl⟩

theorem minFunc_two (k l:Key) (b o:Nat) (w:World) (h1:w.cell? ⟨b,o,none⟩=some (.float .f64 k.bits)) (h2:w.cell? ⟨b,o+1,none⟩=some (.float .f64 l.bits)) :
  Calls Tryz.prog 260 #[.slice (some ⟨b,o,none⟩) 2 2,.func (.func 214) #[] #[]] w fun e w'=>e=.returned (.float .f64 (kLeast k l).bits)∧w=w':=by
 go_enter Tryz.func260,Tryz.ntmps260
 go_wp2_with fail
 go_loop [5,6] (fun m i=>(i=.int .i64 1∧m=.float .f64 k.bits)∨(i=.int .i64 2∧m=.float .f64 (kLeast k l).bits)) (fun _ i=>2-(intOf i).toNat)
 case atStart=>exact .inl ⟨rfl,rfl⟩
 case round =>
  rcases hrel with ⟨rfl,rfl⟩|⟨rfl,rfl⟩
  ·by_cases hc:l.v<k.v
   ·have e:kLeast k l=l:=by simp [kLeast,hc]
    have ht:decide (cmpI l.v k.v<0)=true:=by unfold cmpI;simp only [decide_eq_true_eq];split <;> (try split) <;> omega
    rw [e]
    clear e hc
    go_wp2_with (go_at_call 214;(with_reducible refine (floCmp_keys _ _ _).mono ?_);rintro e w' ⟨rfl,rfl⟩)
    go_round
    case rel=>exact .inr ⟨rfl,rfl⟩
    case measure=>simp [intOf]
   ·have e:kLeast k l=k:=by simp [kLeast,hc]
    have ht:decide (cmpI l.v k.v<0)=false:=by
     have hc':¬l.v<k.v:=hc
     unfold cmpI
     simp only [decide_eq_false_iff_not]
     split <;> (try split) <;> omega
    rw [e]
    clear e hc
    go_wp2_with (go_at_call 214;(with_reducible refine (floCmp_keys _ _ _).mono ?_);rintro e w' ⟨rfl,rfl⟩)
    go_round
    case rel=>exact .inr ⟨rfl,rfl⟩
    case measure=>simp [intOf]
  ·go_wp2
   go_ret
   exact ⟨rfl,rfl⟩

theorem most_two (k l:Key) (b o:Nat) (w:World) (h1:w.cell? ⟨b,o,none⟩=some (.float .f64 k.bits)) (h2:w.cell? ⟨b,o+1,none⟩=some (.float .f64 l.bits)) :
  Calls Tryz.prog 228 #[.slice (some ⟨b,o,none⟩) 2 2] w fun e w'=>e=.returned (.float .f64 (kMost k l).bits)∧w=w':=by
 have hc:=cbits_key (kMost k l)
 go_enter Tryz.func228,Tryz.ntmps228
 go_wp2_with (first|(go_at_call 261;(with_reducible refine (maxFunc_two k l _ _ _ h1 h2).mono ?_);rintro e w' ⟨rfl,rfl⟩)|(go_at_call 195;(with_reducible refine (floCanon_any _ (Key.bits_lt _) _).mono ?_);rintro e w' ⟨rfl,rfl⟩))
 go_ret
 exact ⟨rfl,rfl⟩

theorem least_two (k l:Key) (b o:Nat) (w:World) (h1:w.cell? ⟨b,o,none⟩=some (.float .f64 k.bits)) (h2:w.cell? ⟨b,o+1,none⟩=some (.float .f64 l.bits)) :
  Calls Tryz.prog 227 #[.slice (some ⟨b,o,none⟩) 2 2] w fun e w'=>e=.returned (.float .f64 (kLeast k l).bits)∧w=w':=by
 have hc:=cbits_key (kLeast k l)
 go_enter Tryz.func227,Tryz.ntmps227
 go_wp2_with (first|(go_at_call 260;(with_reducible refine (minFunc_two k l _ _ _ h1 h2).mono ?_);rintro e w' ⟨rfl,rfl⟩)|(go_at_call 195;(with_reducible refine (floCanon_any _ (Key.bits_lt _) _).mono ?_);rintro e w' ⟨rfl,rfl⟩))
 go_ret
 exact ⟨rfl,rfl⟩

end Go.Proofs.YtdeeoddacnealaaGreat