/- Several texts as one: PB PA PP. -/
import Derived.Test.YtekmadgacepdfaaGreatKP
import Derived.Test.YtekmadgacepdfaaGreatKA0
namespace Go.Proofs.YtekmadgacepdfaaGreat.P
set_option linter.unusedVariables false
open Fl

/-- A word in groups of seven bits. -/
def vlq (u : Nat) : List Nat := if h : u < 128 then [u] else (u % 128 + 128) :: vlq (u / 128)
termination_by u
decreasing_by omega
/-- A number as a word, and back. -/
def zig (n : Int) : Nat := if 0 ≤ n then 2 * n.toNat else 2 * (-n - 1).toNat + 1
def numB (n : Int) : List Nat := vlq (zig n)
def NumD (n : Int) : Prop := -9223372036854775808 ≤ n ∧ n < 9223372036854775808
/-- A word in eight bytes, the greatest first. -/
def keyB (u : Nat) : List Nat := [u / 72057594037927936 % 256, u / 281474976710656 % 256, u / 1099511627776 % 256, u / 4294967296 % 256, u / 16777216 % 256, u / 65536 % 256, u / 256 % 256, u % 256]
/-- A key's code as a word; the key of a word. -/
def codeN (b : Nat) : Nat := (codeOf b).toNat
def ofN (u : Nat) : Nat := if u = 0 then nanBits else if top ≤ u then u - top else 18446744073709551615 - u
def okN (u : Nat) : Bool := decide (codeN (ofN u) = u)
end Go.Proofs.YtekmadgacepdfaaGreat.P
namespace Go.Proofs.YtekmadgacepdfaaGreat.P
set_option linter.unusedVariables false
open Go.RowKit Fl

def bCells (l : List Nat) : List Value := l.map fun b => .int .u8 (b : Nat)
theorem bCells_len (l : List Nat) : (bCells l).length = l.length := List.length_map _
theorem byteInfo : (Tryz.prog.info? 5).map (fun i => (i.zero, i.size, i.bytes)) = some (some (.int .u8 0), 1, 1) := by kernel_rfl
/-- A row of bytes lies at a slice's address. -/
structure BAt (w : World) (a : Option Addr) (bs : List Nat) : Prop where
 row : bs = [] ∨ ∃ b o, a = some ⟨b, o, none⟩ ∧ b < w.heap.size ∧ ∀ i, i < bs.length → w.cell? ⟨b, o + i, none⟩ = some (.int .u8 (bs[i]?.getD 0 : Nat))
 lt : ∀ x ∈ bs, x < 256
 len : bs.length ≤ maxLen
theorem BAt.below {w w' : World} {a : Option Addr} {xs : List Nat} (h : BAt w a xs) (hb : Below w.heap.size w w') : BAt w' a xs := by
 refine ⟨?_, h.lt, h.len⟩
 rcases h.row with h0 | ⟨b, o, h1, h2, h3⟩
 ·exact .inl h0
 ·exact .inr ⟨b, o, h1, Nat.lt_of_lt_of_le h2 hb.size, fun i hi => (hb.cell (p := ⟨b, o + i, none⟩) h2).trans (h3 i hi)⟩
end Go.Proofs.YtekmadgacepdfaaGreat.P
namespace Go.Proofs.YtekmadgacepdfaaGreat.P
set_option linter.unusedVariables false
open Go.RowKit Fl

/-- A value to be packed: a number or a key. -/
inductive PV where
 | num (n : Int)
 | key (x : Nat)
def PV.enc : PV → List Value
 | .num n => [.int .i64 1, .int .i64 n, .float .f64 0, .slice none 0 0, .bool false]
 | .key x => [.int .i64 2, .int .i64 0, .float .f64 x, .slice none 0 0, .bool false]
def PV.ok : PV → Prop
 | .num n => NumD n
 | .key x => x < 2 ^ 64
def PV.bytes : PV → List Nat
 | .num n => numB n
 | .key x => keyB (codeN x)
theorem PV.enc_len (v : PV) : v.enc.length = 5 := by cases v <;> rfl
theorem PV.enc_one (v : PV) : ∀ u ∈ v.enc, u.oneCell' = true := by
 intro u hu
 cases v <;> simp [PV.enc] at hu <;> rcases hu with rfl | rfl | rfl | rfl | rfl <;> rfl
/-- A row of values to be packed. -/
def VAt (w : World) (a : Option Addr) (vs : List PV) : Prop := vs = [] ∨ ∃ b, a = some ⟨b, 0, none⟩ ∧ b < w.heap.size ∧ ∀ (i t : Nat) (v : PV) (u : Value), vs[i]? = some v → v.enc[t]? = some u → w.cell? ⟨b, i * 5 + t, none⟩ = some u
theorem VAt.below {w w' : World} {a : Option Addr} {vs : List PV} (h : VAt w a vs) (hb : Below w.heap.size w w') : VAt w' a vs := by
 rcases h with h | ⟨b, h1, h2, h3⟩
 ·exact .inl h
 ·exact .inr ⟨b, h1, Nat.lt_of_lt_of_le h2 hb.size, fun i t v u hv hu => (hb.cell (p := ⟨b, i * 5 + t, none⟩) h2).trans (h3 i t v u hv hu)⟩

end Go.Proofs.YtekmadgacepdfaaGreat.P
