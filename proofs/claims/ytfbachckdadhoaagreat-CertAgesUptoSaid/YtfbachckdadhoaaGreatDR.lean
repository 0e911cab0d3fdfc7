/- Rows of transactions that have committed, as a statement keeps them. -/
import Derived.Test.YtfbachckdadhoaaGreatMCR
import Derived.Test.YtfbachckdadhoaaGreatMCQ
namespace Go.Proofs.YtfbachckdadhoaaGreat.C
set_option linter.unusedVariables false
open Go.RowKit Fl
set_option linter.unusedSimpArgs false

def dEnc (r : RecV) : List Value := [.int .i64 r.num, .int .i64 r.s.s0, .int .i64 r.s.s1, .int .i64 r.s.s2, .slice r.s.ra r.s.rs.length r.s.rc, .slice r.s.sa r.s.ss.length r.s.sc, .slice r.s.wa r.s.ws.length r.s.wc]
theorem dEnc7 (r : RecV) : (dEnc r).length = 7 := rfl
def dCells (l : List RecV) : List Value := l.flatMap dEnc
theorem dEnc_one (r : RecV) : ∀ u ∈ dEnc r, u.oneCell' = true := by
 intro u hu
 simp only [dEnc, List.mem_cons, List.not_mem_nil, or_false] at hu
 rcases hu with rfl | rfl | rfl | rfl | rfl | rfl | rfl <;> rfl
structure DRow (B : Nat) (ow : Nat → Nat) (a : Option Addr) (n c : Nat) (ds : List RecV) (w : World) : Prop where
 own : w.ownsRow B 37 7 (.slice a n c) n (dCells ds)
 len : ds.length = n
 free : ∀ g, (Value.slice a n c).ownBlock = some g → ow g = 0
theorem DRow.nil (B : Nat) (ow : Nat → Nat) (w : World) : DRow B ow none 0 0 [] w := ⟨⟨rfl, .inl ⟨rfl, rfl⟩⟩, rfl, fun g h => by cases h⟩
theorem DRow.lit {B T : Nat} {cc : CL} {ow : Nat → Nat} {w : World} (h : CAt B T cc ow w) : DRow B ow (some ⟨w.heap.size, 0, none⟩) 0 0 [] (w.alloc (.cells #[] 37)) :=
 ⟨⟨rfl, .inr ⟨w.heap.size, 0, #[], rfl, h.hB, heap_alloc_new w _, Nat.le_refl _, by unfold maxLen; omega, by simp, by simp [dCells]⟩⟩, rfl, fun g e => by
  cases e; exact Classical.byContradiction fun h0 => Nat.lt_irrefl _ (h.low _ h0).2⟩
theorem DRow.below {B : Nat} {ow : Nat → Nat} {a : Option Addr} {n c : Nat} {ds : List RecV} {w w' : World} (h : DRow B ow a n c ds w) (hb : Below w.heap.size w w') : DRow B ow a n c ds w' :=
 ⟨row_kept h.own fun g e => hb.block g (h.own.lt g e).2, h.len, h.free⟩
theorem DRow.fr {B : Nat} {ow ow' : Nat → Nat} {a : Option Addr} {n c : Nat} {ds : List RecV} {w w' : World} (h : DRow B ow a n c ds w) (f : C.Fr ow ow' w w') : DRow B ow' a n c ds w' :=
 ⟨row_kept h.own fun g e => f.block g (h.own.lt g e).2 (h.free g e), h.len, fun g e => (f.own g (h.own.lt g e).2).trans (h.free g e)⟩
theorem DRow.get {B : Nat} {ow : Nat → Nat} {a : Option Addr} {n c : Nat} {ds : List RecV} {w : World} (h : DRow B ow a n c ds w) {k : Nat} (hk : k < n) {r : RecV} (hr : ds[k]? = some r) : ∃ g, a = some ⟨g, 0, none⟩ ∧ B ≤ g ∧ g < w.heap.size ∧
  w.cell? ⟨g, k * 7, none⟩ = some (.int .i64 r.num) ∧ w.cell? ⟨g, k * 7 + 1, none⟩ = some (.int .i64 r.s.s0) ∧ w.cell? ⟨g, k * 7 + 2, none⟩ = some (.int .i64 r.s.s1) ∧ w.cell? ⟨g, k * 7 + 3, none⟩ = some (.int .i64 r.s.s2) ∧
  w.cell? ⟨g, k * 7 + 4, none⟩ = some (.slice r.s.ra r.s.rs.length r.s.rc) ∧ w.cell? ⟨g, k * 7 + 5, none⟩ = some (.slice r.s.sa r.s.ss.length r.s.sc) ∧ w.cell? ⟨g, k * 7 + 6, none⟩ = some (.slice r.s.wa r.s.ws.length r.s.wc) := by
 rcases h.own.2 with ⟨_, h2⟩ | ⟨g, cap, cur, h1, h2, h3, _⟩
 ·omega
 ·cases h1
  have hc := h.own.cells (g := g) rfl
  have key : ∀ t v, (dEnc r)[t]? = some v → w.cell? ⟨g, k * 7 + t, none⟩ = some v := fun t v hv => by
   have ht : t < 7 := (List.getElem?_eq_some_iff.1 hv).1
   have := hc (k * 7 + t) v ((flat_get dEnc7 hr ht).trans hv)
   rw [K.addr0] at this
   exact this
  exact ⟨g, rfl, h2, (Array.getElem?_eq_some_iff.1 h3).1, key 0 _ rfl, key 1 _ rfl, key 2 _ rfl, key 3 _ rfl, key 4 _ rfl, key 5 _ rfl, key 6 _ rfl⟩
theorem app_dn {w : World} {B T : Nat} {cc : CL} {ow : Nat → Nat} {a : Option Addr} {n c : Nat} {ds : List RecV} (r : RecV) (h : DRow B ow a n c ds w) (hC : CAt B T cc ow w) (hl : n ≤ 2000000) (G : Nat) (hG : ∀ j u, (dEnc r)[j]? = some u → w.cell? ⟨G, j, none⟩ = some u) :
  ∃ a' c' w', (∀ ty, (Builtin.append_ #[28, 28] ty #[.slice a n c, .slice (some ⟨G, 0, none⟩) 1 1]).run Tryz.prog w = .ok (.slice a' (n + 1) c') w') ∧ DRow B ow a' (n + 1) c' (ds ++ [r]) w' ∧ CAt B T cc ow w' ∧ Below B w w' ∧ w.grownBy w' (Value.slice a n c).ownBlock := by
 obtain ⟨i0, hi0, hz0, hzs, hzb⟩ := info_parts doneInfo
 obtain ⟨v', w', hr, h2, h3⟩ := run_append_own2 (P := Tryz.prog) w B 28 37 i0 _ 7 104 Tryz.underlying28 hi0 hz0 hzs hzb rfl (by omega) _ _ _ h.own ⟨G, 0, none⟩ 1 1 (dEnc r) (by rw [dEnc7])
  (fun j u hj => by rw [K.addr0]; exact hG j u hj) (dEnc_one r) (by omega) (by unfold maxLen; omega) (by omega) hC.hB
 have hc : dCells ds ++ dEnc r = dCells (ds ++ [r]) := by simp [dCells]
 rw [hc] at h2
 have hv : ∃ va vc, v' = .slice va (n + 1) vc := by
  rcases h2.2 with ⟨rfl, h4⟩ | ⟨g, cap, cur, rfl, _⟩
  ·omega
  ·exact ⟨_, _, rfl⟩
 obtain ⟨a', c', rfl⟩ := hv
 have hlow := hC.low
 have fresh : ∀ g, w.heap.size ≤ g → ow g = 0 := fun g hg => Classical.byContradiction fun h0 => by have := (hlow g h0).2; omega
 refine ⟨a', c', w', hr, ⟨h2, by rw [List.length_append, h.len]; rfl, fun g hg => ?_⟩, hC.keep h3.1.size fun k hk h0 => h3.1.block k hk fun e => h0 (h.free k e.symm), ?_, h3.1⟩
 ·rcases h3.2 with h4 | h4 | ⟨g', h4, h5⟩
  ·exact h.free g (by rw [← h4]; exact hg)
  ·rw [h4] at hg; cases hg
  ·rw [h4] at hg; cases hg; exact fresh g h5
 ·exact (Below.refl B w).grown h3.1 hC.hB fun k hk => (h.own.lt k hk).1
end Go.Proofs.YtfbachckdadhoaaGreat.C
