/- Several texts as one: UD UE UF UH. -/
import Derived.WalkKit
import Derived.WideKeyEntry
import Derived.Test.YtekmadgacepdfaaGreatMUA
import Derived.Test.YtekmadgacepdfaaGreatMPA
import Derived.Shelf.SlLaysZI
import Derived.Test.YtekmadgacepdfaaGreatChecked
import Derived.Test.YtekmadgacepdfaaGreatMUL
import Derived.Shelf.SlIterI.Nil
import Derived.Shelf.SortM.Plain
import Derived.Shelf.SortM.SortNone
import Derived.Test.YtekmadgacepdfaaGreatA1
import Derived.Test.YtekmadgacepdfaaGreatVR
import Derived.Test.YtekmadgacepdfaaGreatKA0
import Derived.Laws.CopyOwn
import Derived.Laws.Append
import Derived.Lib.AppendZerosOnto
import Derived.Test.YtekmadgacepdfaaGreatMR
namespace Go.Proofs.YtekmadgacepdfaaGreat.U
set_option linter.unusedVariables false
open Go.RowKit Fl Go.Maps Go.Sort Go.Shelf
open Go.Proofs.YtekmadgacepdfaaGreat.P (bCells bCells_len)

def zCells (l : List Int) : List Value := l.map fun n => .int .i64 n
/-- A result: its number, its code, its transaction. -/
structure RItem where
 seq : Int
 code : Int
 num : Int
def rEnc (r : RItem) : List Value := [.int .i64 r.seq, .int .i64 r.code, .int .i64 r.num]
def rCells (l : List RItem) : List Value := l.flatMap rEnc
/-- A client: what it has, and where that lies. -/
structure CL where
 ses : Int
 last : Int
 ms : List Int
 t : Nat
 os : List OItem
 rs : List RItem
 ma : Option Addr
 mc : Nat
 mb : Nat
 ra : Option Addr
 rc : Nat
def CL.cells (c : CL) : Array Value := #[.int .i64 c.ses, .int .i64 c.last, .slice c.ma c.ms.length c.mc, .int .i64 c.t, .map (some c.mb), .slice c.ra c.rs.length c.rc]
/-- The client lies at block p; all that it has lies at block B or above. -/
structure CAt (B p : Nat) (c : CL) (w : World) : Prop where
 box : w.heap[p]? = some (.cells c.cells 90 (0, 0))
 hp : B ≤ p
 mem : w.ownsRow B 3 1 (.slice c.ma c.ms.length c.mc) c.ms.length (zCells c.ms)
 map : w.ownsMap (H := Value) Tryz.prog 2 heldR c.mb c.last.toNat (datOf c.os)
 hm : B ≤ c.mb
 item : ∀ o ∈ c.os, w.ownsRow B 5 1 o.val o.bs.length (bCells o.bs)
 byte : ∀ o ∈ c.os, o.bs.length ≤ 10000 ∧ ∀ x ∈ o.bs, x < 256
 rise : Rising c.os
 num : ∀ o ∈ c.os, 1 ≤ o.seq ∧ o.seq ≤ c.last
 last : 0 ≤ c.last ∧ c.last ≤ 1099511627776
 res : w.ownsRow B 59 3 (.slice c.ra c.rs.length c.rc) c.rs.length (rCells c.rs)
 many : c.rs.length + c.os.length = c.last.toNat
 tgt : c.t < c.ms.length
 ring : c.ms.length ≤ 7 ∧ ∀ m ∈ c.ms, 1 ≤ m ∧ m ≤ 7
 ses : -9223372036854775808 ≤ c.ses ∧ c.ses ≤ 9223372036854775807
theorem own_stay {w w' : World} {B K n : Nat} {e : TypeId} {v : Value} {cs : List Value} (h : w.ownsRow B e K v n cs) (hk : ∀ g cur, v.ownBlock = some g → w.heap[g]? = some (.cells cur e (0, 0)) → w'.heap[g]? = w.heap[g]?) : w'.ownsRow B e K v n cs := by
 refine ⟨h.1, ?_⟩
 rcases h.2 with h1 | ⟨g, cap, cur, h1, h2, hb, h3⟩
 ·exact .inl h1
 ·exact .inr ⟨g, cap, cur, h1, h2, (hk g cur (by rw [h1]; rfl) hb).trans hb, h3⟩
theorem map_stay {w w' : World} {b n : Nat} {D : DataW Value} (h : w.ownsMap Tryz.prog 2 heldR b n D) (hk : w'.heap[b]? = w.heap[b]?) : w'.ownsMap Tryz.prog 2 heldR b n D := by
 obtain ⟨es, clock, hb, r⟩ := h
 exact ⟨es, clock, hk.trans hb, r⟩
theorem CAt.below {B p : Nat} {c : CL} {w w' : World} (h : CAt B p c w) (hb : Below w.heap.size w w') : CAt B p c w' := by
 have hlt : ∀ {g : Nat} {o : Obj}, w.heap[g]? = some o → g < w.heap.size := fun h => (Array.getElem?_eq_some_iff.1 h).1
 exact ⟨(hb.block p (hlt h.box)).trans h.box, h.hp, own_stay h.mem fun g cur _ hg => hb.block g (hlt hg), map_stay h.map (hb.block _ h.map.lt), h.hm,
  fun o ho => own_stay (h.item o ho) fun g cur _ hg => hb.block g (hlt hg), h.byte, h.rise, h.num, h.last, own_stay h.res fun g cur _ hg => hb.block g (hlt hg), h.many, h.tgt, h.ring, h.ses⟩
theorem CAt.lt {B p : Nat} {c : CL} {w : World} (h : CAt B p c w) : p < w.heap.size := (Array.getElem?_eq_some_iff.1 h.box).1
/-! The sort's two contracts. -/
theorem sortsI (m : Nat) : AnyZI.SortsIn Tryz.prog sortedI_ren Fence.wide m :=
 ⟨fun blk off cap ss W hH hblk hsz => callsIn_wide.2 (AnyM.slices_Sort_int sortI blk off cap ss W hH hblk hsz),
  fun p cap W => callsIn_wide.2 (AnyM.slices_Sort_int_none sortI p cap W)⟩
end Go.Proofs.YtekmadgacepdfaaGreat.U
namespace Go.Proofs.YtekmadgacepdfaaGreat.U
set_option linter.unusedVariables false
open Go.RowKit Fl

theorem CAt.cells {B p : Nat} {c : CL} {w : World} (h : CAt B p c w) : w.cell? ⟨p, 0, none⟩ = some (.int .i64 c.ses) ∧ w.cell? ⟨p, 1, none⟩ = some (.int .i64 c.last) ∧ w.cell? ⟨p, 2, none⟩ = some (.slice c.ma c.ms.length c.mc) ∧ w.cell? ⟨p, 3, none⟩ = some (.int .i64 c.t) ∧ w.cell? ⟨p, 4, none⟩ = some (.map (some c.mb)) ∧ w.cell? ⟨p, 5, none⟩ = some (.slice c.ra c.rs.length c.rc) := by
 refine ⟨?_, ?_, ?_, ?_, ?_, ?_⟩ <;> rw [cell_of_row w p _ _ _ (0, 0) h.box] <;> rfl
def CL.target (c : CL) : Int := c.ms[c.t]?.getD 0
end Go.Proofs.YtekmadgacepdfaaGreat.U
namespace Go.Proofs.YtekmadgacepdfaaGreat.U
set_option linter.unusedVariables false
open Go.RowKit Fl
open Go.Proofs.YtekmadgacepdfaaGreat.P (bCells bCells_len byteInfo)
set_option linter.unusedSimpArgs false

theorem rCells_len (l : List RItem) : (rCells l).length = l.length * 3 := flat_len (f := rEnc) (K := 3) (fun _ => rfl) l
end Go.Proofs.YtekmadgacepdfaaGreat.U
namespace Go.Proofs.YtekmadgacepdfaaGreat.U
set_option linter.unusedVariables false
open Go.RowKit Fl

/-- A row of numbers lies at a slice's address. -/
structure ZAt (w : World) (a : Option Addr) (xs : List Int) : Prop where
 row : xs = [] ∨ ∃ b o, a = some ⟨b, o, none⟩ ∧ b < w.heap.size ∧ ∀ i, i < xs.length → w.cell? ⟨b, o + i, none⟩ = some (.int .i64 (xs[i]?.getD 0))
 len : xs.length ≤ maxLen
theorem ZAt.below {w w' : World} {a : Option Addr} {xs : List Int} (h : ZAt w a xs) (hb : Below w.heap.size w w') : ZAt w' a xs := by
 refine ⟨?_, h.len⟩
 rcases h.row with h0 | ⟨b, o, h1, h2, h3⟩
 ·exact .inl h0
 ·exact .inr ⟨b, o, h1, Nat.lt_of_lt_of_le h2 hb.size, fun i hi => (hb.cell (p := ⟨b, o + i, none⟩) h2).trans (h3 i hi)⟩
end Go.Proofs.YtekmadgacepdfaaGreat.U
