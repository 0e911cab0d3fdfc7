/- Several texts as one: PB PA PP. -/
import Derived.Test.YtekmadgacepdfaaGreatKP
import Derived.Test.YtekmadgacepdfaaGreatKA0
namespace Go.Proofs.YtekmadgacepdfaaGreat.P
set_option linter.unusedVariables false
open Fl

def vlq (u : Nat) : List Nat := if h : u < 128 then [u] else (u % 128 + 128) :: vlq (u / 128)
termination_by u
decreasing_by omega
theorem vlq_lt {u : Nat} (h : u < 128) : vlq u = [u] := by rw [vlq, dif_pos h]
theorem vlq_ge {u : Nat} (h : ¬ u < 128) : vlq u = (u % 128 + 128) :: vlq (u / 128) := by rw [vlq, dif_neg h]
theorem vlq_byte (u : Nat) : ∀ x ∈ vlq u, x < 256 := by
 induction u using vlq.induct with
 | case1 u h => rw [vlq_lt h]; intro x hx; rw [List.mem_singleton.1 hx]; omega
 | case2 u h ih =>
  rw [vlq_ge h]; intro x hx
  rcases List.mem_cons.1 hx with rfl | hx
  ·omega
  ·exact ih x hx
theorem vlq_len : ∀ (k u : Nat), u < 128 ^ (k + 1) → (vlq u).length ≤ k + 1
 | 0, u, h => by rw [vlq_lt (by simpa using h)]; simp
 | k + 1, u, h => by
  by_cases hu : u < 128
  ·rw [vlq_lt hu]; simp
  ·rw [vlq_ge hu]
   have := vlq_len k (u / 128) (by rw [Nat.pow_succ] at h; omega)
   simp; omega
def zig (n : Int) : Nat := if 0 ≤ n then 2 * n.toNat else 2 * (-n - 1).toNat + 1
theorem zig_lt {n : Int} (h1 : -9223372036854775808 ≤ n) (h2 : n < 9223372036854775808) : zig n < 18446744073709551616 := by unfold zig; split <;> omega
def numB (n : Int) : List Nat := vlq (zig n)
def NumD (n : Int) : Prop := -9223372036854775808 ≤ n ∧ n < 9223372036854775808
def keyB (u : Nat) : List Nat := [u / 72057594037927936 % 256, u / 281474976710656 % 256, u / 1099511627776 % 256, u / 4294967296 % 256, u / 16777216 % 256, u / 65536 % 256, u / 256 % 256, u % 256]
def codeN (b : Nat) : Nat := (codeOf b).toNat
def ofN (u : Nat) : Nat := if u = 0 then nanBits else if top ≤ u then u - top else 18446744073709551615 - u
def okN (u : Nat) : Bool := decide (codeN (ofN u) = u)
theorem codeOf_nn (b : Nat) : 0 ≤ codeOf b := by
 unfold codeOf; split
 ·exact Int.le_refl _
 ·have := kcode_lo (kof b); omega
theorem codeN_int (b : Nat) : ((codeN b : Nat) : Int) = codeOf b := by unfold codeN; have := codeOf_nn b; omega
theorem codeN_lt (b : Nat) : codeN b < 18446744073709551616 := by
 unfold codeN codeOf; split
 ·decide
 ·have := kcode_hi (kof b); omega
def KeyD (x : Nat) : Prop := cbits x = x
theorem keyB_len (u : Nat) : (keyB u).length = 8 := rfl
def both {α β : Type} (p : List Nat → Option (α × List Nat)) (q : List Nat → Option (β × List Nat)) (b : List Nat) : Option ((α × β) × List Nat) := match p b with
 | none => none
 | some (x, r) => match q r with
  | none => none
  | some (y, s) => some ((x, y), s)
end Go.Proofs.YtekmadgacepdfaaGreat.P
namespace Go.Proofs.YtekmadgacepdfaaGreat.P
set_option linter.unusedVariables false
open Go.RowKit Fl

def bCells (l : List Nat) : List Value := l.map fun b => .int .u8 (b : Nat)
theorem bCells_len (l : List Nat) : (bCells l).length = l.length := List.length_map _
theorem byteInfo : (Tryz.prog.info? 5).map (fun i => (i.zero, i.size, i.bytes)) = some (some (.int .u8 0), 1, 1) := by kernel_rfl
structure BAt (w : World) (a : Option Addr) (bs : List Nat) : Prop where
 row : bs = [] ∨ ∃ b o, a = some ⟨b, o, none⟩ ∧ b < w.heap.size ∧ ∀ i, i < bs.length → w.cell? ⟨b, o + i, none⟩ = some (.int .u8 (bs[i]?.getD 0 : Nat))
 lt : ∀ x ∈ bs, x < 256
 len : bs.length ≤ maxLen
theorem BAt.below {w w' : World} {a : Option Addr} {xs : List Nat} (h : BAt w a xs) (hb : Below w.heap.size w w') : BAt w' a xs := by
 refine ⟨?_, h.lt, h.len⟩
 rcases h.row with h0 | ⟨b, o, h1, h2, h3⟩
 ·exact .inl h0
 ·exact .inr ⟨b, o, h1, Nat.lt_of_lt_of_le h2 hb.size, fun i hi => (hb.cell (p := ⟨b, o + i, none⟩) h2).trans (h3 i hi)⟩
theorem own_sliceB {w : World} {B n : Nat} {v : Value} {cs : List Value} (h : w.ownsRow B 5 1 v n cs) : ∃ va vc, v = .slice va n vc := by
 rcases h.2 with ⟨rfl, h0⟩ | ⟨g, cap, cur, rfl, _⟩
 ·exact ⟨none, 0, by rw [h0]⟩
 ·exact ⟨_, _, rfl⟩
theorem appB {w : World} {base : Nat} {a : Option Addr} {c n : Nat} {xs : List Nat} (b : Nat) (hn : xs.length = n) (hown : w.ownsRow base 5 1 (.slice a n c) n (bCells xs)) (hbase : base ≤ w.heap.size) (hl : n ≤ 17592186044414) :
  ∃ a' c' w', (∀ ty, (Builtin.append_ #[47, 47] ty #[.slice a n c, .slice (some ⟨w.heap.size, 0, none⟩) 1 1]).run Tryz.prog (w.alloc (.cells #[.int .u8 (b : Nat)] 5)) = .ok (.slice a' (n + 1) c') w') ∧
   w'.ownsRow base 5 1 (.slice a' (n + 1) c') (n + 1) (bCells (xs ++ [b])) ∧ Below base w w' := by
 obtain ⟨i0, hi0, hz0, hzs, hzb⟩ := info_parts byteInfo
 have hb1 : Below w.heap.size w (w.alloc (.cells #[.int .u8 (b : Nat)] 5)) := by (repeat (first | with_reducible exact Below.refl _ _ | ((with_reducible refine Below.alloc1 ?_ ?_ _); (· first | omega | (simp; done) | (simp; omega))) | (with_reducible refine Below.drew ?_) | (with_reducible refine below_drewN' ?_ _) | ((with_reducible refine Below.setCell1 ?_ ?_ _); (· first | omega | (simp; done) | (simp; omega))) | ((with_reducible refine Below.after (by assumption) ?_ ?_); (· first | omega | (simp; done) | (simp; omega)))))
 have hown1 := hown.kept (K.grown_of_below hb1) (by cases (Value.slice a n c).ownBlock <;> simp)
 obtain ⟨v', w', hr, h2, h3⟩ := run_append_own2 (P := Tryz.prog) (w.alloc (.cells #[.int .u8 (b : Nat)] 5)) base 47 5 i0 _ 1 1 Tryz.underlying47 hi0 hz0 hzs hzb rfl (by omega) _ _ _ hown1 ⟨w.heap.size, 0, none⟩ 1 1 [.int .u8 (b : Nat)] rfl
  (fun j u hj => by
   have hrow : (w.alloc (.cells #[.int .u8 (b : Nat)] 5)).heap[w.heap.size]? = some (.cells #[.int .u8 (b : Nat)] 5 (0, 0)) := heap_alloc_new w _
   rw [K.addr0, cell_of_row _ _ j _ _ (0, 0) hrow]
   rw [← hj]; simp) (by intro u hu; rw [List.mem_singleton.1 hu]; rfl) (by omega) (by unfold maxLen; omega) (by omega) (by simp; omega)
 have hc : bCells xs ++ [.int .u8 (b : Nat)] = bCells (xs ++ [b]) := by simp [bCells]
 rw [hc] at h2
 obtain ⟨a', c', rfl⟩ := own_sliceB h2
 exact ⟨a', c', w', hr, h2, (hb1.mono hbase).grown h3.1 (by simp; omega) (fun k hk => (hown.lt k hk).1)⟩
theorem own_bat {w : World} {base n : Nat} {a : Option Addr} {c : Nat} {xs : List Nat} (hn : xs.length = n) (h : w.ownsRow base 5 1 (.slice a n c) n (bCells xs)) (hl : n ≤ 17592186044416) (hlt : ∀ x ∈ xs, x < 256) : BAt w a xs := by
 refine ⟨?_, hlt, by unfold maxLen; omega⟩
 ·rcases h.2 with ⟨h1, h2⟩ | ⟨g, cap, cur, h1, _⟩
  ·exact .inl (List.eq_nil_of_length_eq_zero (by omega))
  ·cases h1
   refine .inr ⟨g, 0, rfl, (h.lt g rfl).2, fun i hi => ?_⟩
   have := h.cells (g := g) rfl i (.int .u8 (xs[i]?.getD 0 : Nat)) (by unfold bCells; rw [List.getElem?_map, List.getElem?_eq_getElem hi]; simp)
   rw [K.addr0] at this
   rw [Nat.zero_add]; exact this

set_option maxRecDepth 100000 in
theorem zig_bits {k : Int} (h : NumD k) : bits BinOp.xor IntKind.u64 (IntKind.u64.wrap (IntKind.u64.wrap k * 2)) (IntKind.u64.wrap (k / 9223372036854775808)) = ((zig k : Nat) : Int) := by
 have h1 := h.1; have h2 := h.2
 rw [IntKind.wrap_u64, IntKind.wrap_u64, IntKind.wrap_u64]
 by_cases hp : 0 ≤ k
 ·have e1 : k % 18446744073709551616 * 2 % 18446744073709551616 = ((2 * k.toNat : Nat) : Int) := by omega
  have e2 : k / 9223372036854775808 % 18446744073709551616 = ((0 : Nat) : Int) := by omega
  rw [e1, e2, u64_xor_nat _ _ (by omega) (by omega), Nat.xor_zero]
  unfold zig; rw [if_pos hp]
 ·have e1 : k % 18446744073709551616 * 2 % 18446744073709551616 = (((2 * k + 18446744073709551616).toNat : Nat) : Int) := by omega
  have e2 : k / 9223372036854775808 % 18446744073709551616 = ((18446744073709551615 : Nat) : Int) := by omega
  have hx : 18446744073709551615 ^^^ (2 * k + 18446744073709551616).toNat = 18446744073709551616 - ((2 * k + 18446744073709551616).toNat + 1) := nat_xor_all (b := (2 * k + 18446744073709551616).toNat) (by omega)
  rw [e1, e2, u64_xor_nat _ _ (by omega) (by omega), Nat.xor_comm, hx]
  unfold zig; rw [if_neg hp]; omega
theorem or128 (u : Nat) : bits BinOp.or IntKind.u8 ((u : Int) % 256) 128 = ((u % 128 + 128 : Nat) : Int) := by
 have hd : ∀ x : Fin 256, x.val ||| 128 = x.val % 128 + 128 := by decide +kernel
 have e1 : (u : Int) % 256 = ((u % 256 : Nat) : Int) := by omega
 rw [e1, show (128 : Int) = ((128 : Nat) : Int) from rfl, u8_or_nat _ _ (by omega) (by omega), hd ⟨u % 256, by omega⟩]
 simp only
 omega
theorem low8 {u : Nat} (h : u < 128) : IntKind.u8.wrap (u : Int) = (u : Int) := by rw [IntKind.wrap_u8]; omega
set_option maxRecDepth 100000 in
theorem appendNum_any (a : Option Addr) (c n base : Nat) (l : List Nat) (k : Int) (w : World) (hn : l.length = n) (hown : w.ownsRow base 5 1 (.slice a n c) n (bCells l)) (hbase : base ≤ w.heap.size) (hk : NumD k) (hl : n ≤ 17592186044000) :
  Calls Tryz.prog 121 #[.slice a n c, .int .i64 k] w fun e w' => ∃ a' c', e = .returned (.slice a' (l ++ numB k).length c') ∧ w'.ownsRow base 5 1 (.slice a' (l ++ numB k).length c') (l ++ numB k).length (bCells (l ++ numB k)) ∧ Below base w w' := by
 have HO := hid hown
 have hz := zig_bits hk
 have hzl := zig_lt hk.1 hk.2
 have HE := hid (rfl : l ++ numB k = l ++ numB k)
 have hlen : (l ++ numB k).length ≤ n + 10 := by rw [List.length_append, hn]; have := vlq_len 9 (zig k) (by omega); unfold numB; omega
 have HL := hid hlen
 have hz0 : zig k = zig k := rfl
 obtain ⟨R, hR⟩ : ∃ R, R = l ++ numB k := ⟨_, rfl⟩
 rw [← hR] at HL ⊢
 unfold numB at hR
 generalize hu0 : zig k = u0 at *
 have HR := hid hR.symm
 clear hown hlen HE hR hu0 hz0
 go_enter Tryz.func121, Tryz.ntmps121
 go_upto_region 2 with fail
 try rw [hz]
 clear hz hk
 go_loopw [0, 5] (fun t0 t5 wr => ∃ (L : List Nat) (m u : Nat) (a' : Option Addr) (c' : Nat), t0 = .slice a' m c' ∧ t5 = .int .u64 (u : Nat) ∧ u < 18446744073709551616 ∧ Hid (L.length = m) ∧ Hid (L ++ vlq u = R) ∧ Hid (wr.ownsRow base 5 1 (.slice a' m c') m (bCells L)) ∧ Below base w wr) (fun t0 t5 wr => (intOf t5).toNat)
 case atStart => exact ⟨l, n, u0, a, c, rfl, rfl, hzl, hid hn, HR, HO, Below.refl _ _⟩
 case round =>
  obtain ⟨L, m, u, a', c', rfl, rfl, hu, HM, HQ, HW, hb⟩ := hrel
  have hml : m < 17592186044014 := by
   have h1 := congrArg List.length HQ.out
   have h2 : 0 < (vlq u).length := by by_cases h : u < 128; rw [vlq_lt h]; simp; rw [vlq_ge h]; simp
   have h3 := HL.out; have h4 := HM.out
   rw [List.length_append] at h1
   omega
  have hz2 := hb.size
  have hbw : base ≤ wr.heap.size := by omega
  by_cases hlt : u < 128
  ·have hlt' : ((u : Nat) : Int) < 128 := by omega
   have e8 := low8 hlt
   obtain ⟨a2, c2, w2, hr, hown2, hb2⟩ := appB u HM.out HW.out hbw (by omega)
   go_upto_region 5 with fail
   go_wp2_with (at_builtin; refine Lib.wpList_append_run _ rfl _ _ _ _ rfl _ _ rfl rfl _ _ (hr _) ?_)
   go_ret
   have e : R = L ++ [u] := by rw [← HQ.out, vlq_lt hlt]
   rw [e, List.length_append, HM.out]
   exact ⟨a2, c2, rfl, hown2, hb.trans hb2⟩
  ·have hlt' : ¬ ((u : Nat) : Int) < 128 := by omega
   have e8 := or128 u
   obtain ⟨a2, c2, w2, hr, hown2, hb2⟩ := appB (u % 128 + 128) HM.out HW.out hbw (by omega)
   have HO2 := hid hown2
   clear hown2
   go_upto_region 4 with fail
   go_wp2_with (at_builtin; refine Lib.wpList_append_run _ rfl _ _ _ _ rfl _ _ rfl rfl _ _ (hr _) ?_)
   go_roundw
   case rel => exact ⟨L ++ [u % 128 + 128], m + 1, u / 128, a2, c2, rfl, by go_num, by omega, hid (by rw [List.length_append, HM.out]; rfl), hid (by rw [List.append_assoc, List.singleton_append, ← vlq_ge hlt]; exact HQ.out), HO2, hb.trans hb2⟩
   case measure => simp [intOf]; omega
end Go.Proofs.YtekmadgacepdfaaGreat.P
namespace Go.Proofs.YtekmadgacepdfaaGreat.P
set_option linter.unusedVariables false
open Go.RowKit Fl

inductive PV where
 | num (n : Int)
 | key (x : Nat)
def PV.enc : PV → List Value
 | .num n => [.int .i64 1, .int .i64 n, .float .f64 0, .slice none 0 0, .bool false]
 | .key x => [.int .i64 2, .int .i64 0, .float .f64 x, .slice none 0 0, .bool false]
def PV.ok : PV → Prop
 | .num n => NumD n
 | .key x => x < 2 ^ 64
def PV.bytes : PV → List Nat
 | .num n => numB n
 | .key x => keyB (codeN x)
theorem PV.enc_len (v : PV) : v.enc.length = 5 := by cases v <;> rfl
theorem PV.enc_one (v : PV) : ∀ u ∈ v.enc, u.oneCell' = true := by
 intro u hu
 cases v <;> simp [PV.enc] at hu <;> rcases hu with rfl | rfl | rfl | rfl | rfl <;> rfl
def pvCells (l : List PV) : List Value := l.flatMap PV.enc
theorem numB_len {n : Int} (h : NumD n) : (numB n).length ≤ 10 := by have := zig_lt h.1 h.2; exact vlq_len 9 (zig n) (by omega)
theorem PV.bytes_len {v : PV} (h : v.ok) : v.bytes.length ≤ 10 := by
 cases v with
 | num n => exact numB_len h
 | key x => unfold PV.bytes; rw [keyB_len]; omega
def packB (l : List PV) : List Nat := l.flatMap PV.bytes
theorem packB_take {l : List PV} {i : Nat} {v : PV} (h : l[i]? = some v) : packB (l.take (i + 1)) = packB (l.take i) ++ v.bytes := by
 unfold packB
 rw [List.take_add_one, h, List.flatMap_append]; simp
theorem packB_len {l : List PV} (h : ∀ v ∈ l, v.ok) : (packB l).length ≤ 10 * l.length := by
 induction l with
 | nil => simp [packB]
 | cons v l ih =>
  have h1 := PV.bytes_len (h v (by simp))
  have h2 := ih fun u hu => h u (List.mem_cons_of_mem _ hu)
  unfold packB at *
  rw [List.flatMap_cons, List.length_append, List.length_cons]; omega
def VAt (w : World) (a : Option Addr) (vs : List PV) : Prop := vs = [] ∨ ∃ b, a = some ⟨b, 0, none⟩ ∧ b < w.heap.size ∧ ∀ (i t : Nat) (v : PV) (u : Value), vs[i]? = some v → v.enc[t]? = some u → w.cell? ⟨b, i * 5 + t, none⟩ = some u
theorem VAt.below {w w' : World} {a : Option Addr} {vs : List PV} (h : VAt w a vs) (hb : Below w.heap.size w w') : VAt w' a vs := by
 rcases h with h | ⟨b, h1, h2, h3⟩
 ·exact .inl h
 ·exact .inr ⟨b, h1, Nat.lt_of_lt_of_le h2 hb.size, fun i t v u hv hu => (hb.cell (p := ⟨b, i * 5 + t, none⟩) h2).trans (h3 i t v u hv hu)⟩

def PutRet (w : World) (L : List Nat) (e : Ending) (w' : World) : Prop := ∃ a c, e = .returned (.tuple #[.slice a L.length c, .int .i64 0]) ∧ w'.ownsRow w.heap.size 5 1 (.slice a L.length c) L.length (bCells L) ∧ Below w.heap.size w w'
set_option maxRecDepth 100000 in
theorem put_any (a : Option Addr) (c n : Nat) (vs : List PV) (w : World) (hn : vs.length = n) (h : VAt w a vs) (hok : ∀ v ∈ vs, v.ok) (hl : n ≤ 1000) :
  Calls Tryz.prog 75 #[.slice a n c] w (PutRet w (packB vs)) := by
 have HN := hid hn; have HV := hid h; have HO := hid hok
 clear hn h hok
 go_enter Tryz.func75, Tryz.ntmps75
 go_upto_region 3 with fail
 go_loopw [4, 12] (fun t4 t12 wr => ∃ (i m : Nat) (L : List Nat) (a' : Option Addr) (c' : Nat), t12 = .int .i64 (i : Nat) ∧ t4 = .slice a' m c' ∧ i ≤ n ∧ Hid (L.length = m) ∧ Hid (L = packB (vs.take i)) ∧ Hid (wr.ownsRow w.heap.size 5 1 (.slice a' m c') m (bCells L)) ∧ Below w.heap.size w wr) (fun _ t12 _ => n - (intOf t12).toNat)
 case atStart => exact ⟨0, 0, [], none, 0, rfl, rfl, Nat.zero_le _, hid rfl, hid (by simp [packB]), hid ⟨rfl, .inl ⟨rfl, rfl⟩⟩, Below.refl _ _⟩
 case round =>
  obtain ⟨i, m, L, a', c', rfl, rfl, hi, HM, HL, HW, hb⟩ := hrel
  have hz := hb.size
  have hm : m ≤ 10000 := by
   have h1 := packB_len (l := vs.take i) (fun v hv => HO.out v (List.mem_of_mem_take hv))
   have h2 := HL.out; have h3 := HM.out; have h4 := HN.out
   rw [← h2, h3, List.length_take] at h1
   omega
  by_cases hlt : i < n
  ·have hlt' : (i : Int) < (n : Int) := by omega
   have hi' : i < vs.length := by rw [HN.out]; exact hlt
   obtain ⟨v, hv⟩ : ∃ v, vs[i]? = some v := ⟨_, List.getElem?_eq_getElem hi'⟩
   have hvo := HO.out v (List.mem_of_getElem? hv)
   rcases HV.out with h0 | ⟨b, rfl, hbl, hcell⟩
   ·rw [h0] at hi'; simp at hi'
   have kk := fun t u hu => (hb.cell (p := ⟨b, i * 5 + t, none⟩) hbl).trans (hcell i t v u hv hu)
   have HVV := hid hv
   clear hcell hv hi'
   cases v with
   | num k =>
    have k0 := kk 0 _ rfl; have k1 := kk 1 _ rfl; have k2 := kk 2 _ rfl; have k3 := kk 3 _ rfl; have k4 := kk 4 _ rfl
    rw [Nat.add_zero] at k0
    clear kk
    go_upto_region 8 with fail
    generalize hW1 : World.alloc _ _ = w1 at *
    have hb1 : Below wr.heap.size wr w1 := by rw [← hW1]; (repeat (first | with_reducible exact Below.refl _ _ | ((with_reducible refine Below.alloc1 ?_ ?_ _); (· first | omega | (simp; done) | (simp; omega))) | (with_reducible refine Below.drew ?_) | (with_reducible refine below_drewN' ?_ _) | ((with_reducible refine Below.setCell1 ?_ ?_ _); (· first | omega | (simp; done) | (simp; omega))) | ((with_reducible refine Below.after (by assumption) ?_ ?_); (· first | omega | (simp; done) | (simp; omega)))))
    have hz1 := hb1.size
    have q1 : w1.cell? ⟨wr.heap.size, 1, none⟩ = some (.int .i64 k) := by rw [← hW1]; simp [go_sem]
    have hown1 := HW.out.kept (K.grown_of_below hb1) (by cases (Value.slice a' m c').ownBlock <;> simp)
    clear hW1 k0 k1 k2 k3 k4
    go_wp2_with fail
    refine (appendNum_any a' c' m w.heap.size L k w1 HM.out hown1 (by omega) hvo (by omega)).mono ?_
    rintro e w2 ⟨a2, c2, rfl, hown2, hb2⟩
    have HW2 := hid hown2
    have HM2 := hid (rfl : (L ++ numB k).length = (L ++ numB k).length)
    have hbw : Below w.heap.size w w2 := (hb.trans (hb1.mono hz)).trans hb2
    have HL2 : Hid (L ++ numB k = packB (vs.take (i + 1))) := hid (by rw [packB_take HVV.out, HL.out]; rfl)
    clear hown1 hown2
    generalize L ++ numB k = L2 at *
    generalize hm2 : L2.length = m2 at *
    go_wp2_with fail
    go_roundw
    case rel => exact ⟨i + 1, m2, L2, a2, c2, by go_num, rfl, by omega, hid hm2, HL2, HW2, hbw⟩
    case measure => simp [intOf]; omega
   | key x =>
    have k0 := kk 0 _ rfl; have k1 := kk 1 _ rfl; have k2 := kk 2 _ rfl; have k3 := kk 3 _ rfl; have k4 := kk 4 _ rfl
    rw [Nat.add_zero] at k0
    clear kk
    have hx : x < 2 ^ 64 := hvo
    go_upto_region 10 with fail
    generalize hW1 : World.alloc _ _ = w1 at *
    have hb1 : Below wr.heap.size wr w1 := by rw [← hW1]; (repeat (first | with_reducible exact Below.refl _ _ | ((with_reducible refine Below.alloc1 ?_ ?_ _); (· first | omega | (simp; done) | (simp; omega))) | (with_reducible refine Below.drew ?_) | (with_reducible refine below_drewN' ?_ _) | ((with_reducible refine Below.setCell1 ?_ ?_ _); (· first | omega | (simp; done) | (simp; omega))) | ((with_reducible refine Below.after (by assumption) ?_ ?_); (· first | omega | (simp; done) | (simp; omega)))))
    have hz1 := hb1.size
    have q1 : w1.cell? ⟨wr.heap.size, 2, none⟩ = some (.float .f64 x) := by rw [← hW1]; simp [go_sem]
    have hown1 := HW.out.kept (K.grown_of_below hb1) (by cases (Value.slice a' m c').ownBlock <;> simp)
    clear hW1 k0 k1 k2 k3 k4
    go_upto_region 12 with (go_at_call 122; (with_reducible refine (floCode_any _ hx _).mono ?_); rintro e w' ⟨rfl, rfl⟩)
    rw [← codeN_int]
    have hu := codeN_lt x
    have HT : Hid (packB (vs.take (i + 1)) = L ++ keyB (codeN x)) := hid (by rw [packB_take HVV.out, HL.out]; rfl)
    have HW1 := hid hown1
    have hbw1 := hb.trans (hb1.mono hz)
    clear hown1 hb HVV
    generalize codeN x = u at *
    go_loopw [4, 8] (fun t4 t8 wz => ∃ (j m2 : Nat) (L3 : List Nat) (a2 : Option Addr) (c2 : Nat), j ≤ 8 ∧ t8 = .int .i64 (56 - 8 * (j : Int)) ∧ t4 = .slice a2 m2 c2 ∧ Hid (L3.length = m2) ∧ m2 ≤ m + j ∧ Hid (L3 = L ++ (keyB u).take j) ∧ Hid (wz.ownsRow w.heap.size 5 1 (.slice a2 m2 c2) m2 (bCells L3)) ∧ Below w.heap.size w wz) (fun _ t8 _ => (intOf t8 + 8).toNat)
    case atStart => exact ⟨0, m, L, a', c', by omega, rfl, rfl, HM, Nat.le_refl _, hid (by simp), HW1, hbw1⟩
    case round =>
     obtain ⟨j, m2, L3, a2, c2, hj, rfl, rfl, HM3, hm2, HL3, HW3, hb3⟩ := hrel
     have hz3 := hb3.size
     by_cases hj8 : j = 8
     ·subst hj8
      have hL : Hid (L3 = packB (vs.take (i + 1))) := hid (by rw [HL3.out, HT.out, List.take_of_length_le (by rw [keyB_len]; omega)])
      go_wp2_with fail
      go_roundw
      case rel => exact ⟨i + 1, m2, L3, a2, c2, by go_num, rfl, by omega, HM3, hL, HW3, hb3⟩
      case measure => simp [intOf]; omega
     ·have hj7 : j = 0 ∨ j = 1 ∨ j = 2 ∨ j = 3 ∨ j = 4 ∨ j = 5 ∨ j = 6 ∨ j = 7 := by omega
      have key : ∀ (d : Nat), (keyB u)[j]? = some d → Hid (L3 ++ [d] = L ++ (keyB u).take (j + 1)) := fun d hd => hid (by rw [HL3.out, List.take_add_one, hd, List.append_assoc]; rfl)
      rcases hj7 with rfl | rfl | rfl | rfl | rfl | rfl | rfl | rfl
      ·have HK := key (u / 72057594037927936) (by show some (u / 72057594037927936 % 256) = _; congr 1; omega)
       obtain ⟨a4, c4, w4, hr4, hown4, hb4⟩ := appB (u / 72057594037927936) HM3.out HW3.out (by omega) (by omega)
       have HO4 := hid hown4
       clear hown4 key
       go_upto_region 14 with fail
       go_wp2_with (at_builtin; refine Lib.wpList_append_run _ rfl _ _ _ _ rfl _ _ rfl rfl _ _ (hr4 _) ?_)
       go_roundw
       case rel => exact ⟨1, m2 + 1, _, a4, c4, by omega, by go_num, rfl, hid (by rw [List.length_append, HM3.out]; rfl), by omega, HK, HO4, hb3.trans hb4⟩
       case measure => simp [intOf]
      ·have HK := key (u / 281474976710656 % 256) rfl
       obtain ⟨a4, c4, w4, hr4, hown4, hb4⟩ := appB (u / 281474976710656 % 256) HM3.out HW3.out (by omega) (by omega)
       have HO4 := hid hown4
       clear hown4 key
       go_upto_region 14 with fail
       go_wp2_with (at_builtin; refine Lib.wpList_append_run _ rfl _ _ _ _ rfl _ _ rfl rfl _ _ (hr4 _) ?_)
       go_roundw
       case rel => exact ⟨2, m2 + 1, _, a4, c4, by omega, by go_num, rfl, hid (by rw [List.length_append, HM3.out]; rfl), by omega, HK, HO4, hb3.trans hb4⟩
       case measure => simp [intOf]
      ·have HK := key (u / 1099511627776 % 256) rfl
       obtain ⟨a4, c4, w4, hr4, hown4, hb4⟩ := appB (u / 1099511627776 % 256) HM3.out HW3.out (by omega) (by omega)
       have HO4 := hid hown4
       clear hown4 key
       go_upto_region 14 with fail
       go_wp2_with (at_builtin; refine Lib.wpList_append_run _ rfl _ _ _ _ rfl _ _ rfl rfl _ _ (hr4 _) ?_)
       go_roundw
       case rel => exact ⟨3, m2 + 1, _, a4, c4, by omega, by go_num, rfl, hid (by rw [List.length_append, HM3.out]; rfl), by omega, HK, HO4, hb3.trans hb4⟩
       case measure => simp [intOf]
      ·have HK := key (u / 4294967296 % 256) rfl
       obtain ⟨a4, c4, w4, hr4, hown4, hb4⟩ := appB (u / 4294967296 % 256) HM3.out HW3.out (by omega) (by omega)
       have HO4 := hid hown4
       clear hown4 key
       go_upto_region 14 with fail
       go_wp2_with (at_builtin; refine Lib.wpList_append_run _ rfl _ _ _ _ rfl _ _ rfl rfl _ _ (hr4 _) ?_)
       go_roundw
       case rel => exact ⟨4, m2 + 1, _, a4, c4, by omega, by go_num, rfl, hid (by rw [List.length_append, HM3.out]; rfl), by omega, HK, HO4, hb3.trans hb4⟩
       case measure => simp [intOf]
      ·have HK := key (u / 16777216 % 256) rfl
       obtain ⟨a4, c4, w4, hr4, hown4, hb4⟩ := appB (u / 16777216 % 256) HM3.out HW3.out (by omega) (by omega)
       have HO4 := hid hown4
       clear hown4 key
       go_upto_region 14 with fail
       go_wp2_with (at_builtin; refine Lib.wpList_append_run _ rfl _ _ _ _ rfl _ _ rfl rfl _ _ (hr4 _) ?_)
       go_roundw
       case rel => exact ⟨5, m2 + 1, _, a4, c4, by omega, by go_num, rfl, hid (by rw [List.length_append, HM3.out]; rfl), by omega, HK, HO4, hb3.trans hb4⟩
       case measure => simp [intOf]
      ·have HK := key (u / 65536 % 256) rfl
       obtain ⟨a4, c4, w4, hr4, hown4, hb4⟩ := appB (u / 65536 % 256) HM3.out HW3.out (by omega) (by omega)
       have HO4 := hid hown4
       clear hown4 key
       go_upto_region 14 with fail
       go_wp2_with (at_builtin; refine Lib.wpList_append_run _ rfl _ _ _ _ rfl _ _ rfl rfl _ _ (hr4 _) ?_)
       go_roundw
       case rel => exact ⟨6, m2 + 1, _, a4, c4, by omega, by go_num, rfl, hid (by rw [List.length_append, HM3.out]; rfl), by omega, HK, HO4, hb3.trans hb4⟩
       case measure => simp [intOf]
      ·have HK := key (u / 256 % 256) rfl
       obtain ⟨a4, c4, w4, hr4, hown4, hb4⟩ := appB (u / 256 % 256) HM3.out HW3.out (by omega) (by omega)
       have HO4 := hid hown4
       clear hown4 key
       go_upto_region 14 with fail
       go_wp2_with (at_builtin; refine Lib.wpList_append_run _ rfl _ _ _ _ rfl _ _ rfl rfl _ _ (hr4 _) ?_)
       go_roundw
       case rel => exact ⟨7, m2 + 1, _, a4, c4, by omega, by go_num, rfl, hid (by rw [List.length_append, HM3.out]; rfl), by omega, HK, HO4, hb3.trans hb4⟩
       case measure => simp [intOf]
      ·have HK := key (u % 256) rfl
       obtain ⟨a4, c4, w4, hr4, hown4, hb4⟩ := appB (u % 256) HM3.out HW3.out (by omega) (by omega)
       have HO4 := hid hown4
       clear hown4 key
       go_upto_region 14 with fail
       go_wp2_with (at_builtin; refine Lib.wpList_append_run _ rfl _ _ _ _ rfl _ _ rfl rfl _ _ (hr4 _) ?_)
       go_roundw
       case rel => exact ⟨8, m2 + 1, _, a4, c4, by omega, by go_num, rfl, hid (by rw [List.length_append, HM3.out]; rfl), by omega, HK, HO4, hb3.trans hb4⟩
       case measure => simp [intOf]
  ·obtain rfl : i = n := by omega
   have hall : vs.take i = vs := List.take_of_length_le (by rw [HN.out]; exact Nat.le_refl _)
   have HL3 := HL.out
   rw [hall] at HL3
   subst HL3
   have HM3 := HM.out
   subst HM3
   go_wp2_with fail
   exact bodyPost_ret (v := .tuple #[.slice a' (packB vs).length c', .int .i64 0]) (by simp [results, Tryz.results75, go_sem]) rfl ⟨a', c', rfl, HW.out, hb⟩
end Go.Proofs.YtekmadgacepdfaaGreat.P
