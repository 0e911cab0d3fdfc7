/- Rows of spans as they lie. -/
import Derived.Test.YtibimhjbhincnaaG0
namespace Go.Proofs.Ytibimhjbhincnaa
set_option linter.unusedVariables false
open Go.RowKit Fl

/-- A span as it lies. -/
structure SpanV where
  lo : Nat
  hi : Nat
  a : Bool
  b : Bool
instance : Inhabited SpanV := ⟨⟨0, 0, false, false⟩⟩
def SpanV.rg (s : SpanV) : Rg := canonS s.lo s.hi s.a s.b

/-- A row of spans lies at a slice's address. -/
structure SAt (w : World) (a : Option Addr) (ss : List SpanV) : Prop where
  row : ss = [] ∨ ∃ b o, a = some ⟨b, o, none⟩ ∧ b < w.heap.size ∧ ∀ i, i < ss.length → w.cell? ⟨b, o + i * 4, none⟩ = some (.float .f64 (ss[i]?.getD default).lo) ∧ w.cell? ⟨b, o + i * 4 + 1, none⟩ = some (.float .f64 (ss[i]?.getD default).hi) ∧
    w.cell? ⟨b, o + i * 4 + 2, none⟩ = some (.bool (ss[i]?.getD default).a) ∧ w.cell? ⟨b, o + i * 4 + 3, none⟩ = some (.bool (ss[i]?.getD default).b)
  lt : ∀ i, i < ss.length → (ss[i]?.getD default).lo < 2 ^ 64 ∧ (ss[i]?.getD default).hi < 2 ^ 64
  len : ss.length ≤ maxLen

theorem SAt.below {w w' : World} {a : Option Addr} {ss : List SpanV} (h : SAt w a ss) (hb : Below w.heap.size w w') : SAt w' a ss := by
  refine ⟨?_, h.lt, h.len⟩
  rcases h.row with h0 | ⟨b, o, h1, h2, h3⟩
  · exact .inl h0
  · have k := fun j => hb.cell (p := ⟨b, j, none⟩) h2
    exact .inr ⟨b, o, h1, Nat.lt_of_lt_of_le h2 hb.size, fun i hi => ⟨(k _).trans (h3 i hi).1, (k _).trans (h3 i hi).2.1, (k _).trans (h3 i hi).2.2.1, (k _).trans (h3 i hi).2.2.2⟩⟩
theorem sp_some {ss : List SpanV} {k : Nat} (h : k < ss.length) : ss[k]? = some (ss[k]?.getD default) := by rw [List.getElem?_eq_getElem h]; rfl
end Go.Proofs.Ytibimhjbhincnaa
