/- Several texts as one: UA UB. -/
import Derived.Maps.OwnSet
import Derived.Lib.SlKeysI
import Derived.WalkKit
import Derived.WideKeyEntry
namespace Go.Proofs.YtekmadgacepdfaaGreat.U
set_option linter.unusedVariables false
open Go.Maps

/-- An entry: its number; its bytes, and where they lie. -/
structure OItem where
 seq : Int
 a : Option Addr
 c : Nat
 bs : List Nat
def OItem.val (o : OItem) : Value := .slice o.a o.bs.length o.c
def entry (o : OItem) : Lit × DataW Value := (.int .i64 o.seq, .held o.val)
def datOf (os : List OItem) : DataW Value := .map (os.map entry)
/-- How an element reads: as itself. -/
def heldR (v : Value) : Option (DataW Value × List MemPlace) := some (.held v, [])
def Rising (os : List OItem) : Prop := os.Pairwise fun x y => x.seq < y.seq
end Go.Proofs.YtekmadgacepdfaaGreat.U
namespace Go.Proofs.YtekmadgacepdfaaGreat.U
set_option linter.unusedVariables false
open Go.Maps Go.MapKept Go.ChangeMaps
open Go.WideElems (Fit rd rg pl)

end Go.Proofs.YtekmadgacepdfaaGreat.U
