/- Several texts as one: UD UE UF UH. -/
import Derived.Test.YtekmadgacepdfaaGreatMUA
import Derived.Test.YtekmadgacepdfaaGreatMPA
import Derived.Test.YtekmadgacepdfaaGreatMUL
import Derived.Shelf.SlIterI.Nil
import Derived.Shelf.SortM.Plain
import Derived.Shelf.SortM.SortNone
import Derived.Test.YtekmadgacepdfaaGreatA1
import Derived.Test.YtekmadgacepdfaaGreatVR
import Derived.Test.YtekmadgacepdfaaGreatKA0
import Derived.Laws.CopyOwn
import Derived.Laws.Append
import Derived.Lib.AppendZerosOnto
import Derived.Test.YtekmadgacepdfaaGreatMR
namespace Go.Proofs.YtekmadgacepdfaaGreat.U
set_option linter.unusedVariables false
open Go.RowKit Fl Go.Maps Go.Sort Go.Shelf
open Go.Proofs.YtekmadgacepdfaaGreat.P (bCells bCells_len)

def zCells (l : List Int) : List Value := l.map fun n => .int .i64 n
structure RItem where
 seq : Int
 code : Int
 num : Int
def rEnc (r : RItem) : List Value := [.int .i64 r.seq, .int .i64 r.code, .int .i64 r.num]
def rCells (l : List RItem) : List Value := l.flatMap rEnc
structure CL where
 ses : Int
 last : Int
 ms : List Int
 t : Nat
 os : List OItem
 rs : List RItem
 ma : Option Addr
 mc : Nat
 mb : Nat
 ra : Option Addr
 rc : Nat
def CL.cells (c : CL) : Array Value := #[.int .i64 c.ses, .int .i64 c.last, .slice c.ma c.ms.length c.mc, .int .i64 c.t, .map (some c.mb), .slice c.ra c.rs.length c.rc]
theorem mapKeyed : Keyed Tryz.prog 2 := int_keyed Tryz.underlying2
structure CAt (B p : Nat) (c : CL) (w : World) : Prop where
 box : w.heap[p]? = some (.cells c.cells 90 (0, 0))
 hp : B ≤ p
 mem : w.ownsRow B 3 1 (.slice c.ma c.ms.length c.mc) c.ms.length (zCells c.ms)
 map : w.ownsMap (H := Value) Tryz.prog 2 heldR c.mb c.last.toNat (datOf c.os)
 hm : B ≤ c.mb
 item : ∀ o ∈ c.os, w.ownsRow B 5 1 o.val o.bs.length (bCells o.bs)
 byte : ∀ o ∈ c.os, o.bs.length ≤ 10000 ∧ ∀ x ∈ o.bs, x < 256
 rise : Rising c.os
 num : ∀ o ∈ c.os, 1 ≤ o.seq ∧ o.seq ≤ c.last
 last : 0 ≤ c.last ∧ c.last ≤ 1099511627776
 res : w.ownsRow B 59 3 (.slice c.ra c.rs.length c.rc) c.rs.length (rCells c.rs)
 many : c.rs.length + c.os.length = c.last.toNat
 tgt : c.t < c.ms.length
 ring : c.ms.length ≤ 7 ∧ ∀ m ∈ c.ms, 1 ≤ m ∧ m ≤ 7
 ses : -9223372036854775808 ≤ c.ses ∧ c.ses ≤ 9223372036854775807
theorem own_blk {w : World} {B K n g : Nat} {e : TypeId} {v : Value} {cs : List Value} (h : w.ownsRow B e K v n cs) (hg : v.ownBlock = some g) : ∃ cur, w.heap[g]? = some (.cells cur e (0, 0)) := by
 rcases h.2 with ⟨h1, _⟩ | ⟨g', cap, cur, h1, _, hb, _⟩
 ·rw [h1] at hg; cases hg
 ·rw [h1] at hg; cases hg; exact ⟨cur, hb⟩
theorem own_stay {w w' : World} {B K n : Nat} {e : TypeId} {v : Value} {cs : List Value} (h : w.ownsRow B e K v n cs) (hk : ∀ g cur, v.ownBlock = some g → w.heap[g]? = some (.cells cur e (0, 0)) → w'.heap[g]? = w.heap[g]?) : w'.ownsRow B e K v n cs := by
 refine ⟨h.1, ?_⟩
 rcases h.2 with h1 | ⟨g, cap, cur, h1, h2, hb, h3⟩
 ·exact .inl h1
 ·exact .inr ⟨g, cap, cur, h1, h2, (hk g cur (by rw [h1]; rfl) hb).trans hb, h3⟩
theorem map_stay {w w' : World} {b n : Nat} {D : DataW Value} (h : w.ownsMap Tryz.prog 2 heldR b n D) (hk : w'.heap[b]? = w.heap[b]?) : w'.ownsMap Tryz.prog 2 heldR b n D := by
 obtain ⟨es, clock, hb, r⟩ := h
 exact ⟨es, clock, hk.trans hb, r⟩
theorem CAt.below {B p : Nat} {c : CL} {w w' : World} (h : CAt B p c w) (hb : Below w.heap.size w w') : CAt B p c w' := by
 have hlt : ∀ {g : Nat} {o : Obj}, w.heap[g]? = some o → g < w.heap.size := fun h => (Array.getElem?_eq_some_iff.1 h).1
 exact ⟨(hb.block p (hlt h.box)).trans h.box, h.hp, own_stay h.mem fun g cur _ hg => hb.block g (hlt hg), map_stay h.map (hb.block _ h.map.lt), h.hm,
  fun o ho => own_stay (h.item o ho) fun g cur _ hg => hb.block g (hlt hg), h.byte, h.rise, h.num, h.last, own_stay h.res fun g cur _ hg => hb.block g (hlt hg), h.many, h.tgt, h.ring, h.ses⟩
theorem CAt.lt {B p : Nat} {c : CL} {w : World} (h : CAt B p c w) : p < w.heap.size := (Array.getElem?_eq_some_iff.1 h.box).1
theorem CAt.os_len {B p : Nat} {c : CL} {w : World} (h : CAt B p c w) : c.os.length ≤ 1099511627776 := by
 have h1 := h.many
 have h2 := h.last
 omega
theorem CAt.rs_len {B p : Nat} {c : CL} {w : World} (h : CAt B p c w) : c.rs.length ≤ 1099511627776 := by
 have h1 := h.many
 have h2 := h.last
 omega

theorem sortsI (m : Nat) : AnyZI.SortsIn Tryz.prog sortedI_ren Fence.wide m :=
 ⟨fun blk off cap ss W hH hblk hsz => callsIn_wide.2 (AnyM.slices_Sort_int sortI blk off cap ss W hH hblk hsz),
  fun p cap W => callsIn_wide.2 (AnyM.slices_Sort_int_none sortI p cap W)⟩
def NumsRet (l : List Int) (w : World) (e : Ending) (w' : World) : Prop := ∃ a c, e = .returned (.slice a l.length c) ∧ w'.ownsRow w.heap.size 2 1 (.slice a l.length c) l.length (zCells l) ∧ Below w.heap.size w w'
theorem own_slice64 {w : World} {B n : Nat} {v : Value} {cs : List Value} (h : w.ownsRow B 2 1 v n cs) : ∃ va vc, v = .slice va n vc := by
 rcases h.2 with ⟨rfl, h0⟩ | ⟨g, cap, cur, rfl, _⟩
 ·exact ⟨none, 0, by rw [h0]⟩
 ·exact ⟨_, _, rfl⟩
set_option maxHeartbeats 1000000 in
theorem open_any (B p : Nat) (c : CL) (w : World) (h : CAt B p c w) :
  Calls Tryz.prog 20 #[.pointer (some ⟨p, 0, none⟩)] w (NumsRet (c.os.map OItem.seq) w) := by
 have hown := h.map
 have hlen := h.os_len
 have hrise := h.rise
 have c4 : w.cell? ⟨p, 4, none⟩ = some (.map (some c.mb)) := by rw [cell_of_row w p 4 _ _ (0, 0) h.box]; rfl
 clear h
 generalize c.os = os at *
 generalize c.last.toNat = nn at *
 generalize c.mb = b at *
 have hmax : Maps.size (datOf os) ≤ maxLen := by rw [dat_size]; unfold maxLen; omega
 have hbytes : Maps.size (datOf os) * 8 ≤ 140737488355328 := by rw [dat_size]; omega
 refine (callsIn_wide (n := 6)).1 ?_
 have hbl := hown.lt
 have hseq : SeqGives Fence.wide 2 Tryz.prog 86 #[.pointer (some ⟨w.heap.size, 0, none⟩)] encZ (fun ss => ss.Perm (intKeys (datOf os))) (Maps.size (datOf os)) (w.alloc (.cells #[.map (some b)] 88)) :=
  AnyZI.keys_gives (ρ := keysI_ren) { keysI with } Fence.wide _ trivial rfl (by omega) w.heap.size b nn (datOf os) _ (by simp) (by simp) (by
   obtain ⟨es, clock, hb, Ft, hs, hD⟩ := hown
   exact ⟨es, clock, (Below.heap_alloc _ _ b hbl).trans hb, Ft, hs, hD⟩)
 have cK : ∀ mb W, CallsIn Fence.wide 5 Tryz.prog 49 #[.map mb] W fun e w' => e = .returned (.func (.func 86) #[] #[.pointer (some ⟨W.heap.size, 0, none⟩)]) ∧ w' = W.alloc (.cells #[.map mb] 88) := fun mb W => AnyZI.keys_in keysI Fence.wide 5 trivial rfl mb W
 have cS := AnyZI.sorted_in sortedI Fence.wide 5 trivial trivial trivial trivial rfl (by omega) (sortsI _) (enters_of Tryz.func85 (by kernel_rfl) rfl) 86 #[.pointer (some ⟨w.heap.size, 0, none⟩)] trivial (enters_of Tryz.func86 (by kernel_rfl) rfl) _ _ hmax hbytes _ hseq
 change CallsIn _ _ Tryz.prog 48 _ _ _ at cS
 have hfK : Fence.wide.fn 49 := trivial
 have hfS : Fence.wide.fn 48 := trivial
 clear hmax hbytes hseq hown
 refine callsIn_of_wp Tryz.func20 rfl trivial ?_ rfl
 simp only [Tryz.ntmps20, List.size_toArray, List.length_cons, List.length_nil, Nat.reduceAdd, Nat.reduceSub, Array.replicate_succ, Array.replicate_zero, List.push_toArray, List.append_toArray, List.nil_append, List.cons_append]
 gi_wp2_with (first
  | (gi_at_call 49; refine (cK _ _).mono ?_; rintro e w' ⟨rfl, rfl⟩)
  | (gi_at_call 48; refine cS.mono ?_; rintro e w' ⟨v, ss, rfl, hS, hrow, hnil, hb⟩))
 have hks := keys_sorted hrise hS
 have hsl : ss.length = (os.map OItem.seq).length := by rw [← hks, List.length_mergeSort]
 rw [hks, hsl] at hrow
 have hrow2 := ownsRow_base_a (base' := w.heap.size) hrow (by simp)
 obtain ⟨a, cc, rfl⟩ := own_slice64 hrow2
 go_ret
 exact ⟨a, cc, rfl, hrow2, ((Below.refl _ w).alloc (Nat.le_refl _) _).trans (hb.mono (by simp))⟩
end Go.Proofs.YtekmadgacepdfaaGreat.U
namespace Go.Proofs.YtekmadgacepdfaaGreat.U
set_option linter.unusedVariables false
open Go.RowKit Fl

theorem CAt.cells {B p : Nat} {c : CL} {w : World} (h : CAt B p c w) : w.cell? ⟨p, 0, none⟩ = some (.int .i64 c.ses) ∧ w.cell? ⟨p, 1, none⟩ = some (.int .i64 c.last) ∧ w.cell? ⟨p, 2, none⟩ = some (.slice c.ma c.ms.length c.mc) ∧ w.cell? ⟨p, 3, none⟩ = some (.int .i64 c.t) ∧ w.cell? ⟨p, 4, none⟩ = some (.map (some c.mb)) ∧ w.cell? ⟨p, 5, none⟩ = some (.slice c.ra c.rs.length c.rc) := by
 refine ⟨?_, ?_, ?_, ?_, ?_, ?_⟩ <;> rw [cell_of_row w p _ _ _ (0, 0) h.box] <;> rfl
def CL.target (c : CL) : Int := c.ms[c.t]?.getD 0
theorem target_any (B p : Nat) (c : CL) (w : World) (h : CAt B p c w) :
  Calls Tryz.prog 21 #[.pointer (some ⟨p, 0, none⟩)] w (Ret (.int .i64 c.target) w) := by
 obtain ⟨_, _, c2, c3, _, _⟩ := h.cells
 have hlt := h.lt
 have ht := h.tgt
 have hr := h.ring.1
 have hmem := h.mem
 have hv : c.ms[c.t]? = some c.target := by unfold CL.target; rw [List.getElem?_eq_getElem ht]; rfl
 clear h
 generalize c.target = v at *
 rcases hmem.2 with ⟨_, h0⟩ | ⟨g, cap, cur, h1, _, hg, _⟩
 ·omega
 ·have hcl := hmem.cells (g := g) (by rw [h1]; rfl) c.t (.int .i64 v) (by unfold zCells; rw [List.getElem?_map, hv]; rfl)
  rw [K.addr0] at hcl
  injection h1 with ha hn hc
  rw [ha] at c2
  clear ha hn hc
  have hglt := (Array.getElem?_eq_some_iff.1 hg).1
  have ht' : (c.t : Int) < (c.ms.length : Int) := by omega
  clear hmem hv hg ht
  generalize c.t = t at *
  generalize c.ms.length = n at *
  go_enter Tryz.func21, Tryz.ntmps21
  go_upto_region 1 with fail
  go_quiet (fail)
  go_wp2_with fail
  go_ret
  exact ⟨rfl, by (repeat (first | with_reducible exact Below.refl _ _ | ((with_reducible refine Below.alloc1 ?_ ?_ _); (· first | omega | (simp; done) | (simp; omega))) | (with_reducible refine Below.drew ?_) | (with_reducible refine below_drewN' ?_ _) | ((with_reducible refine Below.setCell1 ?_ ?_ _); (· first | omega | (simp; done) | (simp; omega))) | ((with_reducible refine Below.after (by assumption) ?_ ?_); (· first | omega | (simp; done) | (simp; omega)))))⟩
end Go.Proofs.YtekmadgacepdfaaGreat.U
namespace Go.Proofs.YtekmadgacepdfaaGreat.U
set_option linter.unusedVariables false
open Go.RowKit Fl
open Go.Proofs.YtekmadgacepdfaaGreat.P (bCells bCells_len byteInfo)
set_option linter.unusedSimpArgs false

theorem resInfo : (Tryz.prog.info? 59).map (fun i => (i.zero, i.size, i.bytes)) = some (some (.agg #[.int .i64 0, .int .i64 0, .int .i64 0]), 3, 24) := by kernel_rfl
theorem rCells_len (l : List RItem) : (rCells l).length = l.length * 3 := flat_len (f := rEnc) (K := 3) (fun _ => rfl) l
theorem rCells_one (l : List RItem) : ∀ u ∈ rCells l, u.oneCell' = true := by
 intro u hu
 obtain ⟨r, _, hr⟩ := List.mem_flatMap.1 hu
 simp only [rEnc, List.mem_cons, List.not_mem_nil, or_false] at hr
 rcases hr with rfl | rfl | rfl <;> rfl
theorem bCells_len1 (l : List Nat) : (bCells l).length = l.length * 1 := by rw [bCells_len, Nat.mul_one]
theorem bCells_one (l : List Nat) : ∀ u ∈ bCells l, u.oneCell' = true := by
 intro u hu
 obtain ⟨r, _, rfl⟩ := List.mem_map.1 hu
 rfl

def cloneRRet (its : List RItem) (w : World) (e : Ending) (w' : World) : Prop :=
 ∃ a c, e = .returned (.slice a its.length c) ∧ w'.ownsRow w.heap.size 59 3 (.slice a its.length c) its.length (rCells its) ∧ Below w.heap.size w w'
theorem cloneR_nil (w : World) (a : Option Addr) (n c : Nat) : (binOp .eql 56 (.slice a n c) (.slice none 0 0)).run Tryz.prog w = .ok (.bool a.isNone) w := Go.Lib.run_eql_slice_nil w _ _ a n c 0 0 Tryz.underlying56
theorem cloneR_shape {w : World} {B n : Nat} {v : Value} {cs : List Value} (h : w.ownsRow B 59 3 v n cs) : ∃ va vc, v = .slice va n vc := by
 rcases h.2 with ⟨rfl, h0⟩ | ⟨g, cap, cur, rfl, _⟩
 ·exact ⟨none, 0, by rw [h0]⟩
 ·exact ⟨_, _, rfl⟩
set_option maxRecDepth 100000 in
theorem cloneR_row (g n c : Nat) (its : List RItem) (cur : Array Value) (w : World) (hn : its.length = n) (hlen : n ≤ 1099511627776) (hnc : n ≤ c) (hcm : c ≤ maxLen)
  (hg : w.heap[g]? = some (.cells cur 59 (0, 0))) (hcs : cur.size = c * 3) (htake : cur.toList.take (n * 3) = rCells its) :
  Calls Tryz.prog 50 #[.slice (some ⟨g, 0, none⟩) n c] w (cloneRRet its w) := by
 obtain ⟨i0, hi0, hz0, hzs, hzb⟩ := info_parts resInfo
 have hgl := (Array.getElem?_eq_some_iff.1 hg).1
 have hrow0 : w.ownsRow 0 59 3 (.slice (some ⟨g, 0, none⟩) n c) n (rCells its) := ⟨by rw [rCells_len, hn], .inr ⟨g, c, cur, rfl, Nat.zero_le _, hg, hnc, hcm, hcs, htake⟩⟩
 have hb1 : Below w.heap.size w (w.alloc (.cells #[] 59)) := by (repeat (first | with_reducible exact Below.refl _ _ | ((with_reducible refine Below.alloc1 ?_ ?_ _); (· first | omega | (simp; done) | (simp; omega))) | (with_reducible refine Below.drew ?_) | (with_reducible refine below_drewN' ?_ _) | ((with_reducible refine Below.setCell1 ?_ ?_ _); (· first | omega | (simp; done) | (simp; omega))) | ((with_reducible refine Below.after (by assumption) ?_ ?_); (· first | omega | (simp; done) | (simp; omega)))))
 have hown1 : (w.alloc (.cells #[] 59)).ownsRow w.heap.size 59 3 (.slice (some ⟨w.heap.size, 0, none⟩) 0 0) 0 [] :=
  ⟨rfl, .inr ⟨w.heap.size, 0, #[], rfl, Nat.le_refl _, heap_alloc_new w _, Nat.le_refl _, by unfold maxLen; omega, rfl, rfl⟩⟩
 by_cases h0 : n = 0
 ·subst h0
  obtain rfl : its = [] := List.eq_nil_of_length_eq_zero hn
  have fin : cloneRRet [] w (.returned (.slice (some ⟨w.heap.size, 0, none⟩) 0 0)) (w.alloc (.cells #[] 59)) := ⟨_, _, rfl, hown1, hb1⟩
  have hfin := hid fin
  clear hrow0 hb1 hown1 htake hcs hg fin hz0 hzs hzb
  have hE := cloneR_nil
  go_enter Tryz.func50, Tryz.ntmps50
  go_wp2
  go_ret
  exact hfin.out
 ·obtain ⟨v', w', hr, h2, h3⟩ := run_append_own2 (P := Tryz.prog) (w.alloc (.cells #[] 59)) w.heap.size 56 59 i0 _ 3 24 Tryz.underlying56 hi0 hz0 hzs hzb rfl (by omega) _ 0 [] hown1 ⟨g, 0, none⟩ n c (rCells its) (by rw [rCells_len, hn])
   (fun j u hj => by
    have := (hrow0.kept (World.grownBy_alloc w (.cells #[] 59) none) (by simp [Value.ownBlock])).cells (g := g) rfl j u hj
    exact this) (rCells_one its) (by omega) (by unfold maxLen; omega) (by omega) (by simp)
  rw [List.nil_append, Nat.zero_add] at h2
  obtain ⟨a', c', rfl⟩ := cloneR_shape h2
  have fin : cloneRRet its w (.returned (.slice a' n c')) w' := ⟨a', c', by rw [hn], by rw [hn]; exact h2, ⟨h3.1.os.trans hb1.os, h3.1.tape.trans hb1.tape, h3.1.output.trans hb1.output, Nat.le_trans hb1.size h3.1.size, fun k hk => (h3.1.block k (by simp; omega) (by simp [Value.ownBlock]; omega)).trans (hb1.block k hk)⟩⟩
  have hfin := hid fin
  clear hrow0 hb1 hown1 htake hcs hg fin hz0 hzs hzb h2 h3
  have hE := cloneR_nil
  go_enter Tryz.func50, Tryz.ntmps50
  go_wp2_with (at_builtin; refine Lib.wpList_append_run _ rfl _ _ _ _ rfl _ _ rfl rfl _ _ (hr _) ?_)
  go_ret
  exact hfin.out
theorem cloneR_any {w : World} {B n c : Nat} {a : Option Addr} {its : List RItem} (hn : its.length = n) (hown : w.ownsRow B 59 3 (.slice a n c) n (rCells its)) (hl : n ≤ 1099511627776) :
  Calls Tryz.prog 50 #[.slice a n c] w (cloneRRet its w) := by
 rcases hown.2 with ⟨h1, h0⟩ | ⟨g, cap, cur, h1, hbg, hg, hnc, hcm, hcs, htake⟩
 ·subst h0
  injection h1 with ha _ hc
  subst ha hc
  obtain rfl : its = [] := List.eq_nil_of_length_eq_zero hn
  have fin : ∀ W, Below w.heap.size w W → cloneRRet [] w (.returned (.slice none 0 0)) W := fun W hb => ⟨_, _, rfl, World.ownsRow_nil _ _ _ _, hb⟩
  have hfin := hid fin
  clear fin hown
  have hE := cloneR_nil
  go_enter Tryz.func50, Tryz.ntmps50
  go_wp2
  go_ret
  exact hfin.out _ (by (repeat (first | with_reducible exact Below.refl _ _ | ((with_reducible refine Below.alloc1 ?_ ?_ _); (· first | omega | (simp; done) | (simp; omega))) | (with_reducible refine Below.drew ?_) | (with_reducible refine below_drewN' ?_ _) | ((with_reducible refine Below.setCell1 ?_ ?_ _); (· first | omega | (simp; done) | (simp; omega))) | ((with_reducible refine Below.after (by assumption) ?_ ?_); (· first | omega | (simp; done) | (simp; omega))))))
 ·injection h1 with ha _ hc
  subst ha hc
  exact cloneR_row g n c its cur w hn hl hnc hcm hg hcs htake

def cloneBRet (its : List Nat) (w : World) (e : Ending) (w' : World) : Prop :=
 ∃ a c, e = .returned (.slice a its.length c) ∧ w'.ownsRow w.heap.size 5 1 (.slice a its.length c) its.length (bCells its) ∧ Below w.heap.size w w'
theorem cloneB_nil (w : World) (a : Option Addr) (n c : Nat) : (binOp .eql 47 (.slice a n c) (.slice none 0 0)).run Tryz.prog w = .ok (.bool a.isNone) w := Go.Lib.run_eql_slice_nil w _ _ a n c 0 0 Tryz.underlying47
theorem cloneB_shape {w : World} {B n : Nat} {v : Value} {cs : List Value} (h : w.ownsRow B 5 1 v n cs) : ∃ va vc, v = .slice va n vc := by
 rcases h.2 with ⟨rfl, h0⟩ | ⟨g, cap, cur, rfl, _⟩
 ·exact ⟨none, 0, by rw [h0]⟩
 ·exact ⟨_, _, rfl⟩
set_option maxRecDepth 100000 in
theorem cloneB_row (g n c : Nat) (its : List Nat) (cur : Array Value) (w : World) (hn : its.length = n) (hlen : n ≤ 1099511627776) (hnc : n ≤ c) (hcm : c ≤ maxLen)
  (hg : w.heap[g]? = some (.cells cur 5 (0, 0))) (hcs : cur.size = c * 1) (htake : cur.toList.take (n * 1) = bCells its) :
  Calls Tryz.prog 47 #[.slice (some ⟨g, 0, none⟩) n c] w (cloneBRet its w) := by
 obtain ⟨i0, hi0, hz0, hzs, hzb⟩ := info_parts byteInfo
 have hgl := (Array.getElem?_eq_some_iff.1 hg).1
 have hrow0 : w.ownsRow 0 5 1 (.slice (some ⟨g, 0, none⟩) n c) n (bCells its) := ⟨by rw [bCells_len1, hn], .inr ⟨g, c, cur, rfl, Nat.zero_le _, hg, hnc, hcm, hcs, htake⟩⟩
 have hb1 : Below w.heap.size w (w.alloc (.cells #[] 5)) := by (repeat (first | with_reducible exact Below.refl _ _ | ((with_reducible refine Below.alloc1 ?_ ?_ _); (· first | omega | (simp; done) | (simp; omega))) | (with_reducible refine Below.drew ?_) | (with_reducible refine below_drewN' ?_ _) | ((with_reducible refine Below.setCell1 ?_ ?_ _); (· first | omega | (simp; done) | (simp; omega))) | ((with_reducible refine Below.after (by assumption) ?_ ?_); (· first | omega | (simp; done) | (simp; omega)))))
 have hown1 : (w.alloc (.cells #[] 5)).ownsRow w.heap.size 5 1 (.slice (some ⟨w.heap.size, 0, none⟩) 0 0) 0 [] :=
  ⟨rfl, .inr ⟨w.heap.size, 0, #[], rfl, Nat.le_refl _, heap_alloc_new w _, Nat.le_refl _, by unfold maxLen; omega, rfl, rfl⟩⟩
 by_cases h0 : n = 0
 ·subst h0
  obtain rfl : its = [] := List.eq_nil_of_length_eq_zero hn
  have fin : cloneBRet [] w (.returned (.slice (some ⟨w.heap.size, 0, none⟩) 0 0)) (w.alloc (.cells #[] 5)) := ⟨_, _, rfl, hown1, hb1⟩
  have hfin := hid fin
  clear hrow0 hb1 hown1 htake hcs hg fin hz0 hzs hzb
  have hE := cloneB_nil
  go_enter Tryz.func47, Tryz.ntmps47
  go_wp2
  go_ret
  exact hfin.out
 ·obtain ⟨v', w', hr, h2, h3⟩ := run_append_own2 (P := Tryz.prog) (w.alloc (.cells #[] 5)) w.heap.size 47 5 i0 _ 1 1 Tryz.underlying47 hi0 hz0 hzs hzb rfl (by omega) _ 0 [] hown1 ⟨g, 0, none⟩ n c (bCells its) (by rw [bCells_len1, hn])
   (fun j u hj => by
    have := (hrow0.kept (World.grownBy_alloc w (.cells #[] 5) none) (by simp [Value.ownBlock])).cells (g := g) rfl j u hj
    exact this) (bCells_one its) (by omega) (by unfold maxLen; omega) (by omega) (by simp)
  rw [List.nil_append, Nat.zero_add] at h2
  obtain ⟨a', c', rfl⟩ := cloneB_shape h2
  have fin : cloneBRet its w (.returned (.slice a' n c')) w' := ⟨a', c', by rw [hn], by rw [hn]; exact h2, ⟨h3.1.os.trans hb1.os, h3.1.tape.trans hb1.tape, h3.1.output.trans hb1.output, Nat.le_trans hb1.size h3.1.size, fun k hk => (h3.1.block k (by simp; omega) (by simp [Value.ownBlock]; omega)).trans (hb1.block k hk)⟩⟩
  have hfin := hid fin
  clear hrow0 hb1 hown1 htake hcs hg fin hz0 hzs hzb h2 h3
  have hE := cloneB_nil
  go_enter Tryz.func47, Tryz.ntmps47
  go_wp2_with (at_builtin; refine Lib.wpList_append_run _ rfl _ _ _ _ rfl _ _ rfl rfl _ _ (hr _) ?_)
  go_ret
  exact hfin.out
theorem cloneB_any {w : World} {B n c : Nat} {a : Option Addr} {its : List Nat} (hn : its.length = n) (hown : w.ownsRow B 5 1 (.slice a n c) n (bCells its)) (hl : n ≤ 1099511627776) :
  Calls Tryz.prog 47 #[.slice a n c] w (cloneBRet its w) := by
 rcases hown.2 with ⟨h1, h0⟩ | ⟨g, cap, cur, h1, hbg, hg, hnc, hcm, hcs, htake⟩
 ·subst h0
  injection h1 with ha _ hc
  subst ha hc
  obtain rfl : its = [] := List.eq_nil_of_length_eq_zero hn
  have fin : ∀ W, Below w.heap.size w W → cloneBRet [] w (.returned (.slice none 0 0)) W := fun W hb => ⟨_, _, rfl, World.ownsRow_nil _ _ _ _, hb⟩
  have hfin := hid fin
  clear fin hown
  have hE := cloneB_nil
  go_enter Tryz.func47, Tryz.ntmps47
  go_wp2
  go_ret
  exact hfin.out _ (by (repeat (first | with_reducible exact Below.refl _ _ | ((with_reducible refine Below.alloc1 ?_ ?_ _); (· first | omega | (simp; done) | (simp; omega))) | (with_reducible refine Below.drew ?_) | (with_reducible refine below_drewN' ?_ _) | ((with_reducible refine Below.setCell1 ?_ ?_ _); (· first | omega | (simp; done) | (simp; omega))) | ((with_reducible refine Below.after (by assumption) ?_ ?_); (· first | omega | (simp; done) | (simp; omega))))))
 ·injection h1 with ha _ hc
  subst ha hc
  exact cloneB_row g n c its cur w hn hl hnc hcm hg hcs htake
theorem results_any (B p : Nat) (c : CL) (w : World) (h : CAt B p c w) :
  Calls Tryz.prog 23 #[.pointer (some ⟨p, 0, none⟩)] w (cloneRRet c.rs w) := by
 obtain ⟨_, _, _, _, _, c5⟩ := h.cells
 have hlt := h.lt
 have H := hid (cloneR_any rfl h.res h.rs_len)
 clear h
 go_enter Tryz.func23, Tryz.ntmps23
 go_wp2_with fail
 refine H.out.mono ?_
 rintro e w1 ⟨a, cc, rfl, ho, hb⟩
 clear H
 generalize hn : c.rs.length = n at *
 have HN := hid hn
 clear hn
 go_wp2_with fail
 go_ret
 refine ⟨a, cc, ?_, ?_, hb⟩
 ·show Ending.returned (.slice a n cc) = _
  rw [HN.out]
 ·rw [HN.out]; exact ho
end Go.Proofs.YtekmadgacepdfaaGreat.U
namespace Go.Proofs.YtekmadgacepdfaaGreat.U
set_option linter.unusedVariables false
open Go.RowKit Fl

structure ZAt (w : World) (a : Option Addr) (xs : List Int) : Prop where
 row : xs = [] ∨ ∃ b o, a = some ⟨b, o, none⟩ ∧ b < w.heap.size ∧ ∀ i, i < xs.length → w.cell? ⟨b, o + i, none⟩ = some (.int .i64 (xs[i]?.getD 0))
 len : xs.length ≤ maxLen
theorem ZAt.below {w w' : World} {a : Option Addr} {xs : List Int} (h : ZAt w a xs) (hb : Below w.heap.size w w') : ZAt w' a xs := by
 refine ⟨?_, h.len⟩
 rcases h.row with h0 | ⟨b, o, h1, h2, h3⟩
 ·exact .inl h0
 ·exact .inr ⟨b, o, h1, Nat.lt_of_lt_of_le h2 hb.size, fun i hi => (hb.cell (p := ⟨b, o + i, none⟩) h2).trans (h3 i hi)⟩
theorem own_zat {w : World} {T : TypeId} {B n c : Nat} {a : Option Addr} {xs : List Int} (hn : xs.length = n) (h : w.ownsRow B T 1 (.slice a n c) n (zCells xs)) (hl : n ≤ maxLen) : ZAt w a xs := by
 refine ⟨?_, by omega⟩
 rcases h.2 with ⟨h1, h2⟩ | ⟨g, cap, cur, h1, _⟩
 ·exact .inl (List.eq_nil_of_length_eq_zero (by omega))
 ·cases h1
  refine .inr ⟨g, 0, rfl, (h.lt g rfl).2, fun i hi => ?_⟩
  have := h.cells (g := g) rfl i (.int .i64 (xs[i]?.getD 0)) (by unfold zCells; rw [List.getElem?_map, List.getElem?_eq_getElem hi]; rfl)
  rw [K.addr0] at this
  rw [Nat.zero_add]; exact this
theorem z_some {xs : List Int} {k : Nat} (h : k < xs.length) : xs[k]? = some (xs[k]?.getD 0) := by rw [List.getElem?_eq_getElem h]; rfl
theorem zIndex_any (a : Option Addr) (c : Nat) (key : Int) (xs : List Int) (n : Nat) (w : World) (hn : xs.length = n) (h : ZAt w a xs) :
  Calls Tryz.prog 46 #[.slice a n c, .int .i64 key] w fun e w' => e = .returned (.int .i64 (idxB (fun x => decide (key = x)) xs)) ∧ w = w' := by
 obtain ⟨hr, hm⟩ := h
 unfold maxLen at hm
 rcases hr with rfl | ⟨b, o, rfl, hb, hc⟩
 ·simp only [List.length_nil] at hn
  subst hn
  have e : idxB (fun x => decide (key = x)) [] = -1 := rfl
  rw [e]
  clear e
  go_enter Tryz.func46, Tryz.ntmps46
  go_wp2
  go_loop [8] (fun i => i = .int .i64 0) (fun _ => 0)
  case atStart => rfl
  case round =>
   subst hrel
   go_wp2
   go_ret
   exact ⟨rfl, rfl⟩
 ·have HC := hid hc; have HN := hid hn
  rw [hn] at hm
  clear hc hn
  go_enter Tryz.func46, Tryz.ntmps46
  go_wp2
  go_loop [8] (fun i => ∃ k : Nat, k ≤ n ∧ i = .int .i64 k ∧ Hid (∀ j, j < k → ∀ y, xs[j]? = some y → decide (key = y) = false)) (fun i => n - (intOf i).toNat)
  case atStart => exact ⟨0, Nat.zero_le _, rfl, hid fun j hj => absurd hj (Nat.not_lt_zero _)⟩
  case round =>
   obtain ⟨k, hk, rfl, HR⟩ := hrel
   by_cases hlt : k < n
   ·have hcell := HC.out k (by rw [HN.out]; exact hlt)
    have hlt' : (k : Int) < (n : Int) := by omega
    have hkx := hid (z_some (xs := xs) (k := k) (by rw [HN.out]; exact hlt))
    generalize hx : xs[k]?.getD 0 = x at *
    have HX := hid hx
    clear hx
    by_cases hp : key = x
    ·have HP := hid hp
     have hb1 : (key == x) = true := by simpa using hp
     subst hp
     clear hb1
     go_wp2
     go_ret
     exact ⟨ret_int (by rw [idxB_some (p := fun x => decide (key = x)) hkx.out (by simp) HR.out]), rfl⟩
    ·have HP := hid hp
     have hb1 : (key == x) = false := by simpa using hp
     go_wp2
     go_round
     case rel => exact ⟨k + 1, by omega, by go_num, hid fun j hj y hy => by
       by_cases h : j < k
       ·exact HR.out j h y hy
       ·obtain rfl : j = k := by omega
        rw [hkx.out] at hy; cases hy; simpa using HP.out⟩
     case measure => simp [intOf]; omega
   ·obtain rfl : k = n := by omega
    go_wp2
    go_ret
    refine ⟨ret_int ?_, rfl⟩
    rw [idxB_none]
    intro i x hx
    refine HR.out i ?_ x hx
    have := (List.getElem?_eq_some_iff.1 hx).1
    have := HN.out
    omega
theorem zContains_any (a : Option Addr) (c : Nat) (key : Int) (xs : List Int) (n : Nat) (w : World) (hn : xs.length = n) (h : ZAt w a xs) :
  Calls Tryz.prog 40 #[.slice a n c, .int .i64 key] w fun e w' => e = .returned (.bool (xs.any fun x => decide (key = x))) ∧ w = w' := by
 have H := fun W hW => zIndex_any a c key xs n W hn hW
 rw [← idxB_any]
 generalize idxB (fun x => decide (key = x)) xs = r at *
 have hn' := hid hn
 clear hn
 go_enter Tryz.func40, Tryz.ntmps40
 go_wp2_with (go_at_call 46; (with_reducible refine (H _ h).mono ?_); rintro e w' ⟨rfl, rfl⟩)
 go_ret
 exact ⟨rfl, rfl⟩
end Go.Proofs.YtekmadgacepdfaaGreat.U
