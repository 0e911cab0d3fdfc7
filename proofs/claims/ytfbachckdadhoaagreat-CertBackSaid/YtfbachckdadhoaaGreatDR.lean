/- Rows of transactions that have committed, as a statement keeps them. -/
import Derived.Test.YtfbachckdadhoaaGreatMCR
import Derived.Test.YtfbachckdadhoaaGreatMCQ
namespace Go.Proofs.YtfbachckdadhoaaGreat.C
set_option linter.unusedVariables false
open Go.RowKit Fl
set_option linter.unusedSimpArgs false

def dEnc (r:RecV):List Value:=[.int .i64 r.num,.int .i64 r.s.s0,.int .i64 r.s.s1,.int .i64 r.s.s2,.slice r.s.ra r.s.rs.length r.s.rc,.slice r.s.sa r.s.ss.length r.s.sc,.slice r.s.wa r.s.ws.length r.s.wc]
theorem dEnc7 (r:RecV):(dEnc r).length=7:=rfl
def dCells (l:List RecV):List Value:=l.flatMap dEnc
structure DRow (B:Nat) (ow:Nat→Nat) (a:Option Addr) (n c:Nat) (ds:List RecV) (w:World):Prop where
 own:w.ownsRow B 37 7 (.slice a n c) n (dCells ds)
 len:ds.length=n
 free:∀ g,(Value.slice a n c).ownBlock=some g→ow g=0
theorem DRow.nil (B:Nat) (ow:Nat→Nat) (w:World):DRow B ow none 0 0 [] w:=⟨⟨rfl,.inl ⟨rfl,rfl⟩⟩,rfl,fun g h=>by cases h⟩
theorem DRow.below {B:Nat} {ow:Nat→Nat} {a:Option Addr} {n c:Nat} {ds:List RecV} {w w':World} (h:DRow B ow a n c ds w) (hb:Below w.heap.size w w'):DRow B ow a n c ds w' :=
 ⟨row_kept h.own fun g e=>hb.block g (h.own.lt g e).2,h.len,h.free⟩
theorem DRow.fr {B:Nat} {ow ow':Nat→Nat} {a:Option Addr} {n c:Nat} {ds:List RecV} {w w':World} (h:DRow B ow a n c ds w) (f:C.Fr ow ow' w w'):DRow B ow' a n c ds w' :=
 ⟨row_kept h.own fun g e=>f.block g (h.own.lt g e).2 (h.free g e),h.len,fun g e=>(f.own g (h.own.lt g e).2).trans (h.free g e)⟩
theorem DRow.get {B:Nat} {ow:Nat→Nat} {a:Option Addr} {n c:Nat} {ds:List RecV} {w:World} (h:DRow B ow a n c ds w) {k:Nat} (hk:k<n) {r:RecV} (hr:ds[k]? = some r):∃ g,a=some ⟨g,0,none⟩∧B≤g∧g<w.heap.size ∧
  w.cell? ⟨g,k * 7,none⟩=some (.int .i64 r.num)∧w.cell? ⟨g,k * 7+1,none⟩=some (.int .i64 r.s.s0)∧w.cell? ⟨g,k * 7+2,none⟩=some (.int .i64 r.s.s1)∧w.cell? ⟨g,k * 7+3,none⟩=some (.int .i64 r.s.s2) ∧
  w.cell? ⟨g,k * 7+4,none⟩=some (.slice r.s.ra r.s.rs.length r.s.rc)∧w.cell? ⟨g,k * 7+5,none⟩=some (.slice r.s.sa r.s.ss.length r.s.sc)∧w.cell? ⟨g,k * 7+6,none⟩=some (.slice r.s.wa r.s.ws.length r.s.wc):=by
 rcases h.own.2 with ⟨_,h2⟩|⟨g,cap,cur,h1,h2,h3,_⟩
 ·omega
 ·cases h1
  have hc:=h.own.cells (g:=g) rfl
  have key:∀ t v,(dEnc r)[t]? = some v→w.cell? ⟨g,k * 7+t,none⟩=some v:=fun t v hv=>by
   have ht:t<7:=(List.getElem?_eq_some_iff.1 hv).1
   have:=hc (k * 7+t) v ((flat_get dEnc7 hr ht).trans hv)
   rw [K.addr0] at this
   exact this
  exact ⟨g,rfl,h2,(Array.getElem?_eq_some_iff.1 h3).1,key 0 _ rfl,key 1 _ rfl,key 2 _ rfl,key 3 _ rfl,key 4 _ rfl,key 5 _ rfl,key 6 _ rfl⟩
end Go.Proofs.YtfbachckdadhoaaGreat.C
