/- cert.Bytes's two closures; values behind the values so far. -/
import Derived.Test.YtfbachckdadhoaaGreatBYP
namespace Go.Proofs.YtfbachckdadhoaaGreat.C
set_option linter.unusedVariables false
open Go.RowKit Fl
open Go.Proofs.YtfbachckdadhoaaGreat.P (PV VBox appV BoxRet numB keyB codeN encO NumD packB pvCells own_notbox bCells)
set_option linter.unusedSimpArgs false

set_option maxRecDepth 100000 in
theorem byNum_any (p : Nat) (vs : List PV) (k : Int) (w : World) (h : VBox p vs w) (hl : vs.length ≤ 1000) :
  Calls Tryz.prog 55 #[.int .i64 k, .pointer (some ⟨p, 0, none⟩)] w (BoxRet p (vs ++ [.num k]) w) := by
 obtain ⟨a, c, h1, h2⟩ := h
 have hlt : p < w.heap.size := (Array.getElem?_eq_some_iff.1 h1).1
 have c0 : w.cell? ⟨p, 0, none⟩ = some (.slice a vs.length c) := by rw [cell_of_row w p 0 _ _ (0, 0) h1]; rfl
 obtain ⟨a', c', w1, hr, hown, hg⟩ := appV (.num k) rfl h2 (by omega) hl
 have F1 := P.Fr.of_grown h2 hg
 have h1' : w1.heap[p]? = some (.cells #[.slice a vs.length c] 113 (0, 0)) := (hg.block p hlt (fun e => by have := (h2.lt p e.symm).1; omega)).trans h1
 have c1 : w1.cell? ⟨p, 0, none⟩ = some (.slice a vs.length c) := by rw [cell_of_row w1 p 0 _ _ (0, 0) h1']; rfl
 have f1 : w1.frozen? ⟨p, 0, none⟩ = false := by simp [World.frozen?, h1']
 obtain ⟨h5, h6⟩ := K.set1 (i := 0) h1' (.slice a' (vs.length + 1) c')
 have hl2 : (vs ++ [PV.num k]).length = vs.length + 1 := by simp
 have HB : Hid (VBox p (vs ++ [.num k]) (w1.setCell ⟨p, 0, none⟩ (.slice a' (vs.length + 1) c'))) := hid ⟨a', c', by rw [hl2]; exact h5, by rw [hl2]; exact hown.kept h6 (.inr fun e => own_notbox hown e h1' rfl)⟩
 have HF : Hid (P.Fr p w (w1.setCell ⟨p, 0, none⟩ (.slice a' (vs.length + 1) c'))) := hid (F1.trans (P.Fr.of_set h6))
 unfold PV.enc at hr
 clear h1 h2 hown hg F1 h1' h5 h6 hl2
 go_enter Tryz.func55, Tryz.ntmps55
 go_wp2_with (at_builtin; refine Lib.wpList_append_run _ rfl _ _ _ _ rfl _ _ rfl rfl _ _ (hr _) ?_)
 go_end0
 exact ⟨rfl, HB.out, HF.out⟩
set_option maxRecDepth 100000 in
theorem byKey_any (p : Nat) (vs : List PV) (k : Nat) (w : World) (h : VBox p vs w) (hl : vs.length ≤ 1000) :
  Calls Tryz.prog 56 #[.float .f64 k, .pointer (some ⟨p, 0, none⟩)] w (BoxRet p (vs ++ [.key k]) w) := by
 obtain ⟨a, c, h1, h2⟩ := h
 have hlt : p < w.heap.size := (Array.getElem?_eq_some_iff.1 h1).1
 have c0 : w.cell? ⟨p, 0, none⟩ = some (.slice a vs.length c) := by rw [cell_of_row w p 0 _ _ (0, 0) h1]; rfl
 obtain ⟨a', c', w1, hr, hown, hg⟩ := appV (.key k) rfl h2 (by omega) hl
 have F1 := P.Fr.of_grown h2 hg
 have h1' : w1.heap[p]? = some (.cells #[.slice a vs.length c] 113 (0, 0)) := (hg.block p hlt (fun e => by have := (h2.lt p e.symm).1; omega)).trans h1
 have c1 : w1.cell? ⟨p, 0, none⟩ = some (.slice a vs.length c) := by rw [cell_of_row w1 p 0 _ _ (0, 0) h1']; rfl
 have f1 : w1.frozen? ⟨p, 0, none⟩ = false := by simp [World.frozen?, h1']
 obtain ⟨h5, h6⟩ := K.set1 (i := 0) h1' (.slice a' (vs.length + 1) c')
 have hl2 : (vs ++ [PV.key k]).length = vs.length + 1 := by simp
 have HB : Hid (VBox p (vs ++ [.key k]) (w1.setCell ⟨p, 0, none⟩ (.slice a' (vs.length + 1) c'))) := hid ⟨a', c', by rw [hl2]; exact h5, by rw [hl2]; exact hown.kept h6 (.inr fun e => own_notbox hown e h1' rfl)⟩
 have HF : Hid (P.Fr p w (w1.setCell ⟨p, 0, none⟩ (.slice a' (vs.length + 1) c'))) := hid (F1.trans (P.Fr.of_set h6))
 unfold PV.enc at hr
 clear h1 h2 hown hg F1 h1' h5 h6 hl2
 go_enter Tryz.func56, Tryz.ntmps56
 go_wp2_with (at_builtin; refine Lib.wpList_append_run _ rfl _ _ _ _ rfl _ _ rfl rfl _ _ (hr _) ?_)
 go_end0
 exact ⟨rfl, HB.out, HF.out⟩

def VS (p : Nat) (L : List Nat) (n : Nat) (w : World) : Prop := ∃ vs : List PV, VBox p vs w ∧ packB vs = L ∧ vs.length = n ∧ (∀ v ∈ vs, v.ok) ∧ ∀ v ∈ vs, v.lies w
theorem lies_fr {p : Nat} {v : PV} {w w' : World} {cur : Array Value} {fr : Nat × Nat} (h : v.lies w) (f : P.Fr p w w') (hp : w.heap[p]? = some (.cells cur 113 fr)) : v.lies w' := by
 cases v with
 | raw a c l =>
  have h : w.ownsRow 0 5 1 (.slice a l.length c) l.length (bCells l) := h
  refine row_kept h fun g e => ?_
  rcases h.2 with ⟨h1, _⟩ | ⟨g', cap, cr, h1, _, h2, _⟩
  ·rw [h1] at e; cases e
  ·rw [h1] at e
   obtain rfl : g' = g := Option.some.inj e
   rw [f.tag h2 (fun e' => by subst e'; rw [h2] at hp; simp at hp) (by decide), h2]
 | _ => trivial
theorem VS.box {p n : Nat} {L : List Nat} {w : World} (h : VS p L n w) : ∃ cur : Array Value, w.heap[p]? = some (.cells cur 113 (0, 0)) := by
 obtain ⟨vs, ⟨a, c, h1, _⟩, _⟩ := h
 exact ⟨_, h1⟩
theorem VS.below {p n : Nat} {L : List Nat} {w w' : World} (h : VS p L n w) (hb : Below w.heap.size w w') : VS p L n w' := by
 obtain ⟨vs, h1, h2, h3, h4, h5⟩ := h
 exact ⟨vs, h1.below hb, h2, h3, h4, fun v hv => PV.lies_below (h5 v hv) hb⟩
theorem packB_snoc (vs : List PV) (v : PV) : packB (vs ++ [v]) = packB vs ++ v.bytes := by simp [packB]
theorem VS.num {p n : Nat} {L : List Nat} {w : World} (h : VS p L n w) (k : Int) (hk : NumD k) (hn : n ≤ 900) :
  Calls Tryz.prog 55 #[.int .i64 k, .pointer (some ⟨p, 0, none⟩)] w fun e w' => e = .returned (.tuple #[]) ∧ VS p (L ++ numB k) (n + 1) w' ∧ P.Fr p w w' := by
 obtain ⟨cur, hp⟩ := h.box
 obtain ⟨vs, h1, h2, h3, h4, h5⟩ := h
 refine (byNum_any p vs k w h1 (by omega)).mono ?_
 rintro e w' ⟨rfl, k1, k2⟩
 refine ⟨rfl, ⟨_, k1, by rw [packB_snoc, h2]; rfl, by rw [List.length_append, h3]; rfl, fun v hv => ?_, fun v hv => ?_⟩, k2⟩
 ·rcases List.mem_append.1 hv with hv | hv
  ·exact h4 v hv
  ·rw [List.mem_singleton.1 hv]; exact hk
 ·rcases List.mem_append.1 hv with hv | hv
  ·exact lies_fr (h5 v hv) k2 hp
  ·rw [List.mem_singleton.1 hv]; trivial
theorem VS.key {p n : Nat} {L : List Nat} {w : World} (h : VS p L n w) (k : Nat) (hk : k < 2 ^ 64) (hn : n ≤ 900) :
  Calls Tryz.prog 56 #[.float .f64 k, .pointer (some ⟨p, 0, none⟩)] w fun e w' => e = .returned (.tuple #[]) ∧ VS p (L ++ keyB (codeN k)) (n + 1) w' ∧ P.Fr p w w' := by
 obtain ⟨cur, hp⟩ := h.box
 obtain ⟨vs, h1, h2, h3, h4, h5⟩ := h
 refine (byKey_any p vs k w h1 (by omega)).mono ?_
 rintro e w' ⟨rfl, k1, k2⟩
 refine ⟨rfl, ⟨_, k1, by rw [packB_snoc, h2]; rfl, by rw [List.length_append, h3]; rfl, fun v hv => ?_, fun v hv => ?_⟩, k2⟩
 ·rcases List.mem_append.1 hv with hv | hv
  ·exact h4 v hv
  ·rw [List.mem_singleton.1 hv]; exact hk
 ·rcases List.mem_append.1 hv with hv | hv
  ·exact lies_fr (h5 v hv) k2 hp
  ·rw [List.mem_singleton.1 hv]; trivial
theorem appV2 {w : World} {base : Nat} {a : Option Addr} {c n : Nat} {vs : List PV} (u v : PV) (hn : vs.length = n) (hown : w.ownsRow base 115 5 (.slice a n c) n (pvCells vs)) (hbase : base ≤ w.heap.size) (hl : n ≤ 1000) :
  ∃ a' c' w', (∀ ty, (Builtin.append_ #[113, 113] ty #[.slice a n c, .slice (some ⟨w.heap.size, 0, none⟩) 2 2]).run Tryz.prog (w.alloc (.cells (u.enc ++ v.enc).toArray 115)) = .ok (.slice a' (n + 2) c') w') ∧
   w'.ownsRow base 115 5 (.slice a' (n + 2) c') (n + 2) (pvCells (vs ++ [u, v])) ∧ w.grownBy w' (Value.slice a n c).ownBlock := by
 obtain ⟨i0, hi0, hz0, hzs, hzb⟩ := info_parts P.valInfo
 have hown1 := hown.kept (World.grownBy_alloc w (.cells (u.enc ++ v.enc).toArray 115) none) (by cases (Value.slice a n c).ownBlock <;> simp)
 obtain ⟨v', w', hr, h2, h3⟩ := run_append_own2 (P := Tryz.prog) (w.alloc (.cells (u.enc ++ v.enc).toArray 115)) base 113 115 i0 _ 5 56 Tryz.underlying113 hi0 hz0 hzs hzb rfl (by omega) _ _ _ hown1 ⟨w.heap.size, 0, none⟩ 2 2 (u.enc ++ v.enc) (by rw [List.length_append, PV.enc_len, PV.enc_len])
  (fun j x hj => by
   have hrow : (w.alloc (.cells (u.enc ++ v.enc).toArray 115)).heap[w.heap.size]? = some (.cells (u.enc ++ v.enc).toArray 115 (0, 0)) := heap_alloc_new w _
   rw [K.addr0, cell_of_row _ _ j _ _ (0, 0) hrow]
   rw [← hj]; simp) (fun x hx => by
    rcases List.mem_append.1 hx with hx | hx
    ·exact PV.enc_one u x hx
    ·exact PV.enc_one v x hx) (by omega) (by unfold maxLen; omega) (by omega) (by simp; omega)
 have hc : pvCells vs ++ (u.enc ++ v.enc) = pvCells (vs ++ [u, v]) := by simp [pvCells]
 rw [hc] at h2
 obtain ⟨a', c', rfl⟩ := P.own_sliceV h2
 exact ⟨a', c', w', hr, h2, (World.grownBy_alloc w _ _).trans h3.1⟩
theorem VS.two {p n : Nat} {L : List Nat} {w : World} (h : VS p L n w) (b : Bool) {a : Option Addr} {c : Nat} {l : List Nat} (hl : (∀ x ∈ l, x < 256) ∧ l.length ≤ 4096 ∧ 0 < l.length) (hr : w.ownsRow 0 5 1 (.slice a l.length c) l.length (bCells l)) (hn : n ≤ 900) :
  ∃ (va : Option Addr) (vc : Nat) (va' : Option Addr) (vc' : Nat) (w' : World), w.cell? ⟨p, 0, none⟩ = some (.slice va n vc) ∧ p < w.heap.size ∧
   (∀ ty, (Builtin.append_ #[113, 113] ty #[.slice va n vc, .slice (some ⟨w.heap.size, 0, none⟩) 2 2]).run Tryz.prog (w.alloc (.cells #[.int .i64 4, .int .i64 0, .float .f64 0, .slice none 0 0, .bool b, .int .i64 3, .int .i64 0, .float .f64 0, .slice a l.length c, .bool false] 115)) = .ok (.slice va' (n + 2) vc') w') ∧
   w'.cell? ⟨p, 0, none⟩ = some (.slice va n vc) ∧ w'.frozen? ⟨p, 0, none⟩ = false ∧ p < w'.heap.size ∧
   VS p (L ++ ((if b = true then 1 else 0) :: (numB l.length ++ l))) (n + 2) (w'.setCell ⟨p, 0, none⟩ (.slice va' (n + 2) vc')) ∧ P.Fr p w (w'.setCell ⟨p, 0, none⟩ (.slice va' (n + 2) vc')) := by
 obtain ⟨vs, ⟨va, vc, h1, h2⟩, h3, h4, h5, h6⟩ := h
 subst h4
 have hlt : p < w.heap.size := (Array.getElem?_eq_some_iff.1 h1).1
 obtain ⟨va', vc', w1, hrun, hown, hg⟩ := appV2 (.flag b) (.raw a c l) rfl h2 (by omega) (by omega)
 have F1 := P.Fr.of_grown h2 hg
 have h1' : w1.heap[p]? = some (.cells #[.slice va vs.length vc] 113 (0, 0)) := (hg.block p hlt (fun e => by have := (h2.lt p e.symm).1; omega)).trans h1
 obtain ⟨k5, k6⟩ := K.set1 (i := 0) h1' (.slice va' (vs.length + 2) vc')
 have hl2 : (vs ++ [PV.flag b, PV.raw a c l]).length = vs.length + 2 := by simp
 have HF := F1.trans (P.Fr.of_set k6)
 refine ⟨va, vc, va', vc', w1, by rw [cell_of_row w p 0 _ _ (0, 0) h1]; rfl, hlt, hrun, by rw [cell_of_row w1 p 0 _ _ (0, 0) h1']; rfl, by simp [World.frozen?, h1'], (Array.getElem?_eq_some_iff.1 h1').1, ⟨vs ++ [.flag b, .raw a c l], ⟨va', vc', by rw [hl2]; exact k5, by rw [hl2]; exact hown.kept k6 (.inr fun e => own_notbox hown e h1' rfl)⟩, ?_, hl2, fun v hv => ?_, fun v hv => ?_⟩, HF⟩
 ·show packB (vs ++ [.flag b, .raw a c l]) = _
  rw [← h3]
  simp [packB, PV.bytes]
 ·rcases List.mem_append.1 hv with hv | hv
  ·exact h5 v hv
  ·simp only [List.mem_cons, List.not_mem_nil, or_false] at hv
   rcases hv with rfl | rfl
   ·trivial
   ·exact hl
 ·rcases List.mem_append.1 hv with hv | hv
  ·exact lies_fr (h6 v hv) HF h1
  ·simp only [List.mem_cons, List.not_mem_nil, or_false] at hv
   rcases hv with rfl | rfl
   ·trivial
   ·exact lies_fr (v := .raw a c l) hr HF h1
end Go.Proofs.YtfbachckdadhoaaGreat.C
