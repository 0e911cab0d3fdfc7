/- Several texts as one: UA UB. -/
import Derived.Maps.OwnSet
import Derived.Lib.SlKeysI
import Derived.WalkKit
import Derived.WideKeyEntry
namespace Go.Proofs.YtekmadgacepdfaaGreat.U
set_option linter.unusedVariables false
open Go.Maps

structure OItem where
 seq : Int
 a : Option Addr
 c : Nat
 bs : List Nat
def OItem.val (o : OItem) : Value := .slice o.a o.bs.length o.c
def entry (o : OItem) : Lit × DataW Value := (.int .i64 o.seq, .held o.val)
def datOf (os : List OItem) : DataW Value := .map (os.map entry)
def heldR (v : Value) : Option (DataW Value × List MemPlace) := some (.held v, [])
def Rising (os : List OItem) : Prop := os.Pairwise fun x y => x.seq < y.seq
theorem same_entry (o : OItem) (k : Int) : (entry o).1.sameKey (.int .i64 k) = decide (o.seq = k) := by
 simp [entry, Lit.sameKey]
theorem dat_has (os : List OItem) (k : Int) : Maps.has (datOf os) (.int .i64 k) = os.any fun o => decide (o.seq = k) := by
 unfold datOf
 rw [Maps.has_eq, List.any_map]
 congr 1
 funext o
 exact same_entry o k
theorem dat_size (os : List OItem) : Maps.size (datOf os) = os.length := by
 unfold datOf
 rw [Maps.size_eq, List.length_map]
theorem dat_at (os : List OItem) (k : Int) (z : DataW Value) : (datOf os).atKey (.int .i64 k) z = match os.find? (fun o => decide (o.seq = k)) with
  | some o => .held o.val
  | none => z := by
 unfold datOf DataW.atKey
 simp only
 rw [List.find?_map]
 have e : ((fun p : Lit × DataW Value => p.1.sameKey (.int .i64 k)) ∘ entry) = fun o => decide (o.seq = k) := by
  funext o; exact same_entry o k
 rw [e]
 cases os.find? (fun o => decide (o.seq = k)) <;> rfl
theorem dat_del (os : List OItem) (k : Int) : (datOf os).del (.int .i64 k) = datOf (os.filter fun o => !decide (o.seq = k)) := by
 unfold datOf DataW.del
 simp only
 rw [List.filter_map]
 congr 3
 funext o
 show (!(entry o).1.sameKey (.int .i64 k)) = _
 rw [same_entry]
theorem insert_last (x : Lit × DataW Value) : ∀ l : List (Lit × DataW Value), (∀ y ∈ l, x.1.before y.1 = false) → DataW.insert x l = l ++ [x]
 | [], _ => rfl
 | y :: r, h => by
  unfold DataW.insert
  rw [if_neg (by rw [h y (List.mem_cons_self ..)]; decide), insert_last x r fun z hz => h z (List.mem_cons_of_mem _ hz)]
  rfl
theorem dat_put (os : List OItem) (x : OItem) (h : ∀ o ∈ os, o.seq < x.seq) : (datOf os).put (.int .i64 x.seq) (.held x.val) = datOf (os ++ [x]) := by
 unfold datOf DataW.put
 simp only
 have hf : (os.map entry).filter (fun p => !p.1.sameKey (.int .i64 x.seq)) = os.map entry := by
  rw [List.filter_eq_self]
  intro p hp
  obtain ⟨o, ho, rfl⟩ := List.mem_map.1 hp
  rw [same_entry]
  have := h o ho
  simp; omega
 rw [hf, insert_last]
 ·rw [List.map_append]; rfl
 ·intro p hp
  obtain ⟨o, ho, rfl⟩ := List.mem_map.1 hp
  have := h o ho
  simp [entry, Lit.before]; omega
theorem dat_keys (os : List OItem) : intKeys (datOf os) = os.map OItem.seq := by
 unfold datOf intKeys
 simp only
 rw [List.map_map]
 rfl
theorem keys_sorted {os : List OItem} (h : Rising os) {ss : List Int} (hp : ss.Perm (intKeys (datOf os))) : ss.mergeSort (fun x y => decide (x ≤ y)) = os.map OItem.seq := by
 rw [dat_keys] at hp
 have h1 : (ss.mergeSort fun x y => decide (x ≤ y)).Perm (os.map OItem.seq) := (List.mergeSort_perm ss _).trans hp
 have h2 : (ss.mergeSort fun x y => decide (x ≤ y)).Pairwise (fun x y => x ≤ y) := by
  have := List.pairwise_mergeSort (le := fun x y : Int => decide (x ≤ y)) (fun a b c h1 h2 => by simp at *; omega) (fun a b => by simp; omega) ss
  exact this.imp fun h => by simpa using h
 have h3 : (os.map OItem.seq).Pairwise (fun x y => x ≤ y) := by
  rw [List.pairwise_map]
  exact h.imp fun h => Int.le_of_lt h
 exact h1.eq_of_pairwise (fun a b _ _ h1 h2 => Int.le_antisymm h1 h2) h2 h3
theorem find_first {os : List OItem} {o : OItem} {t : List OItem} (h : os = o :: t) : os.find? (fun x => decide (x.seq = o.seq)) = some o := by
 subst h
 simp
theorem rising_snoc {os : List OItem} {x : OItem} (h : Rising os) (hx : ∀ o ∈ os, o.seq < x.seq) : Rising (os ++ [x]) := by
 unfold Rising
 rw [List.pairwise_append]
 exact ⟨h, List.pairwise_singleton _ _, fun a ha b hb => by rw [List.mem_singleton.1 hb]; exact hx a ha⟩
theorem rising_filter {os : List OItem} {p : OItem → Bool} (h : Rising os) : Rising (os.filter p) := h.filter _
end Go.Proofs.YtekmadgacepdfaaGreat.U
namespace Go.Proofs.YtekmadgacepdfaaGreat.U
set_option linter.unusedVariables false
open Go.Maps Go.MapKept Go.ChangeMaps
open Go.WideElems (Fit rd rg pl)

theorem push_find {es : Array MapEntry} {clock : Nat} {x : MapEntry} (hs : ∀ y ∈ es.toList, y.born < clock) (hx : x.born = clock) : (es.push x).findIdx? (fun e => ((e.born : Nat) : Int) == ((clock : Nat) : Int)) = some es.size := by
 rw [Go.WideElems.findIdx_arr, Array.toList_push, List.findIdx?_append]
 have h1 : es.toList.findIdx? (fun e => ((e.born : Nat) : Int) == ((clock : Nat) : Int)) = none := by
  rw [List.findIdx?_eq_none_iff]
  intro y hy
  have := hs y hy
  simp; omega
 rw [h1]
 simp [List.findIdx?_cons, hx]
theorem push_modify {es : Array MapEntry} {x : MapEntry} (f : MapEntry → MapEntry) : (es.push x).modify es.size f = es.push (f x) := by
 apply Array.ext'
 rw [Array.toList_modify, Array.toList_push, Array.toList_push, ← Array.length_toList, Go.WideElems.modify_last]
theorem newEntry {H : Type} {P : Program} {w : World} {t k e : TypeId} {R : Value → Option (DataW H × List MemPlace)} {b n : Nat} {D : DataW H} (h : w.ownsMap P k R b n D) (K : Keyed P k) (ht : P.underlying t = some (.map k e)) (hn : n < maxLen) {key val z : Value} {kl : Lit} {d zd : DataW H} {ps zp : List MemPlace}
  (hkey : keyOf P k key = some kl) (hv : R val = some (d, ps)) (hz : ∀ u : World, (zeroValue e).run P u = .ok z u) (hzd : R z = some (zd, zp)) (hfree : Maps.has D kl = false) :
  ∃ st w1 w2, (Instr.mapEntry t (.map (some b)) key).run P w = .ok (.tuple #[z, goInt (st : Nat)]) w1 ∧ (Instr.entryStore t (.map (some b)) (goInt (st : Nat)) val).run P w1 = .ok () w2 ∧ w2.ownsMap P k R b (n + 1) (D.put kl d) ∧ w.mapTurned w2 b ∧ w.mapTurned w1 b := by
 obtain ⟨w', hrun, hown, hturn⟩ := h.store K ht hn hkey hv
 obtain ⟨v0, ps0, hl, _⟩ := h.look_ok K ht (hz w) hzd hkey
 rw [hfree] at hl
 obtain ⟨es, clock, hb, F, hs, rfl⟩ := h
 obtain ⟨s1, s2, s3⟩ := F.stamped
 have hkeys : ∀ x ∈ es.toList, ∃ l, keyOf P k x.key = some l := fun x hx => by
  obtain ⟨y, hy⟩ := F.reads x hx
  exact ⟨_, Go.WideElems.rd_key hy⟩
 rcases K.find w hkey es.toList hkeys with ⟨h1, h2⟩ | ⟨j, e0, h1, h2, h3⟩
 ·have hm : (Instr.mapUpdate t (.map (some b)) key val).run P w = .ok () (setBlock w b (.map (es.push ⟨key, val, clock⟩) (clock + 1))) := by
   simp [Instr.mapUpdate, run_underlying ht, MapKept.run_getObj_map hb, K.check w false hkey, h1, MapKept.run_setObj_map _ hb, Result.andThen, setBlock]
  rw [hm] at hrun
  cases hrun
  have hb1 : (setBlock w b (.map (es.push ⟨key, z, clock⟩) (clock + 1))).heap[b]? = some (.map (es.push ⟨key, z, clock⟩) (clock + 1)) := heap_setBlock_same hb _
  refine ⟨clock, setBlock w b (.map (es.push ⟨key, z, clock⟩) (clock + 1)), setBlock w b (.map (es.push ⟨key, val, clock⟩) (clock + 1)), ?_, ?_, hown, hturn, ⟨es, clock, _, _, hb, rfl⟩⟩
  ·simp [Instr.mapEntry, run_underlying ht, MapKept.run_getObj_map hb, K.check w false hkey, h1, hz, MapKept.run_setObj_map _ hb, Result.andThen, setBlock]
  ·have e1 := push_find (es := es) (x := ⟨key, z, clock⟩) s1 rfl
   have e2 := push_modify (es := es) (x := ⟨key, z, clock⟩) (fun e => { e with val := val })
   have e3 : setBlock (setBlock w b (.map (es.push ⟨key, z, clock⟩) (clock + 1))) b (.map (es.push ⟨key, val, clock⟩) (clock + 1)) = setBlock w b (.map (es.push ⟨key, val, clock⟩) (clock + 1)) := by simp [setBlock]
   rw [← e3]
   generalize setBlock w b (.map (es.push ⟨key, z, clock⟩) (clock + 1)) = w1 at hb1 ⊢
   simp [Instr.entryStore, MapKept.run_getObj_map hb1, asInt, asIntOf, goInt, e1, e2, MapKept.run_setObj_map _ hb1, Result.andThen, setBlock]
 ·exfalso
  rcases Maps.fit_look true K ht (hz w) hb F hkey with ⟨_, hne, _⟩ | ⟨e1, y, _, _, hr, _⟩
  ·exact hne e0 (List.mem_of_getElem? h2) h3
  ·rw [hr] at hl
   simp at hl
end Go.Proofs.YtekmadgacepdfaaGreat.U
