/- A region that draws its order, with a forced tail, at the class of worlds in which all that lay there is unturned. -/
import Derived.Test.YtibimhjbhincnaaA3
import Derived.Test.YtibimhjbhincnaaTail
namespace Go.Proofs.Ytibimhjbhincnaa
set_option linter.unusedVariables false
open Go.RowKit Fl

theorem wp_region_ext_tail {P : Program} {id : Nat} {Q : Exit → Act → World → Prop} {a : Act} {w : World} {l : List Oper} (n : Nat) (hm : P.follows .mixedOrders = true) (hB : Region.lexTailB .any l.toArray n = true)
    (hH : (Region.lexB .any (l.take n).toArray && headFwd .any (l.take n) && Region.seqB .any l.toArray (l.length - n) n ((List.replicate n true ++ List.replicate (l.length - n) false).toArray)) = true)
    (h : wpQuiet P (l.take n).toArray (fun w' => ∃ x : Ext w, w' = x.w) (fun a' => ∀ w', (∃ x : Ext w, w' = x.w) → wpList P l.toArray Q (l.drop n) a' w') (l.take n) a) : (Code.region id l.toArray true).wp P Q a w :=
  wp_region_tail (C := fun w' => ∃ x : Ext w, w' = x.w) n hm hB hH ⟨⟨_, (Below.refl _ _).drew⟩, rfl⟩ h

theorem canon_isN (lo hi : Nat) (a b : Bool) (w : World) (hl : lo < 2 ^ 64) (hh : hi < 2 ^ 64) (hr : Hid (canonS lo hi a b = none)) :
    Calls Try.prog 18 #[.agg #[.float .f64 lo, .float .f64 hi, .bool a, .bool b]] w (Ret (.agg #[.float .f64 0, .float .f64 0, .bool true, .bool true]) w) := canon_is lo hi a b none w hl hh hr
theorem canon_isS (lo hi : Nat) (a b : Bool) (l h : Key) (w : World) (hl : lo < 2 ^ 64) (hh : hi < 2 ^ 64) (hr : Hid (canonS lo hi a b = some (l, h))) :
    Calls Try.prog 18 #[.agg #[.float .f64 lo, .float .f64 hi, .bool a, .bool b]] w (Ret (.agg #[.float .f64 l.bits, .float .f64 h.bits, .bool false, .bool false]) w) := canon_is lo hi a b (some (l, h)) w hl hh hr
theorem noneV_any (w : World) : Calls Try.prog 56 #[] w (Ret (.agg #[.float .f64 0, .float .f64 0, .bool true, .bool true]) w) := none_any w
end Go.Proofs.Ytibimhjbhincnaa
