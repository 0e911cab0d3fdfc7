/- The names of some laws, short. -/
import Derived.Test.YtdeeoddacnealaaGreatChecked
import Derived.Deep.Draws
set_option linter.unusedVariables false
namespace Go.Proofs.YtdeeoddacnealaaGreat
open Go
theorem qA {α:Type _} (l:List α) (i:Nat) (a:α):l.toArray.setIfInBounds i a=(l.set i a).toArray:=List.setIfInBounds_toArray l i a
theorem qB {α:Type _} {x:α} {xs:List α} {a:α}:(x :: xs).set 0 a=a :: xs:=List.set_cons_zero
theorem qC {α:Type _} {x:α} {xs:List α} {i:Nat} {a:α}:(x :: xs).set (i+1) a=x :: xs.set i a:=List.set_cons_succ
theorem qD (w:World) (n:Nat):(w.drewN n).heap=w.heap:=World.heap_drewN w n
theorem qE (w:World) (n:Nat) (a:Addr):(w.drewN n).cell? a=w.cell? a:=World.cell?_drewN w n a
theorem qF (w:World) (n:Nat) (a:Addr):(w.drewN n).frozen? a=w.frozen? a:=World.frozen?_drewN w n a

end Go.Proofs.YtdeeoddacnealaaGreat