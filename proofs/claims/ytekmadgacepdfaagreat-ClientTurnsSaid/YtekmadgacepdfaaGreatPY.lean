/- The document's bytes: numbers, keys, bytes behind bytes. -/
import Derived.Test.YtekmadgacepdfaaGreatMPA

import Derived.Test.YtekmadgacepdfaaGreatMNC
namespace Go.Proofs.YtekmadgacepdfaaGreat.P
set_option linter.unusedVariables false
open Go.RowKit Fl
set_option linter.unusedSimpArgs false

theorem blk_cell {w w' : World} {b : Nat} (h : w'.heap[b]? = w.heap[b]?) (j : Nat) : w'.cell? ⟨b, j, none⟩ = w.cell? ⟨b, j, none⟩ := by simp only [World.cell?, h]
theorem Grew.trans {w w1 w2 : World} {v v1 v2 : Value} (h : Grew w w1 v v1) (k : Grew w1 w2 v1 v2) : Grew w w2 v v2 := by
  obtain ⟨h1, h2⟩ := h
  obtain ⟨k1, k2⟩ := k
  refine ⟨⟨k1.os.trans h1.os, k1.tape.trans h1.tape, k1.output.trans h1.output, Nat.le_trans h1.size k1.size, fun b hb hn => ?_⟩, ?_⟩
  · refine (k1.block b (Nat.lt_of_lt_of_le hb h1.size) fun e => ?_).trans (h1.block b hb hn)
    rcases h2 with h2 | h2 | ⟨g, h2, hg⟩
    · exact hn (e.trans h2)
    · rw [h2] at e; cases e
    · rw [h2] at e; cases e; omega
  · rcases k2 with k2 | k2 | ⟨g, k2, hg⟩
    · rw [k2]; exact h2
    · exact .inr (.inl k2)
    · exact .inr (.inr ⟨g, k2, Nat.le_trans h1.size hg⟩)
theorem Grew.below {w w' : World} {v v' : Value} {B : Nat} (h : Grew w w' v v') (hv : ∀ g, v.ownBlock = some g → B ≤ g) (hB : B ≤ w.heap.size) : Below B w w' :=
  ⟨h.1.os, h.1.tape, h.1.output, h.1.size, fun k hk => h.1.block k (by omega) fun e => by have := hv k e.symm; omega⟩
/-- A byte is added; the row's block told. -/
theorem appG {w : World} {base : Nat} {a : Option Addr} {c n : Nat} {xs : List Nat} (b : Nat) (hn : xs.length = n) (hown : w.ownsRow base 5 1 (.slice a n c) n (bCells xs)) (hbase : base ≤ w.heap.size) (hl : n ≤ 17592186044414) :
    ∃ a' c' w', (∀ ty, (Builtin.append_ #[47, 47] ty #[.slice a n c, .slice (some ⟨w.heap.size, 0, none⟩) 1 1]).run Tryz.prog (w.alloc (.cells #[.int .u8 (b : Nat)] 5)) = .ok (.slice a' (n + 1) c') w') ∧
      w'.ownsRow base 5 1 (.slice a' (n + 1) c') (n + 1) (bCells (xs ++ [b])) ∧ Grew w w' (.slice a n c) (.slice a' (n + 1) c') := by
  obtain ⟨i0, hi0, hz0, hzs, hzb⟩ := info_parts byteInfo
  have hown1 := hown.kept (World.grownBy_alloc w (.cells #[.int .u8 (b : Nat)] 5) none) (by cases (Value.slice a n c).ownBlock <;> simp)
  obtain ⟨v', w', hr, h2, h3⟩ := run_append_own2 (P := Tryz.prog) (w.alloc (.cells #[.int .u8 (b : Nat)] 5)) base 47 5 i0 _ 1 1 Tryz.underlying47 hi0 hz0 hzs hzb rfl (by omega) _ _ _ hown1 ⟨w.heap.size, 0, none⟩ 1 1 [.int .u8 (b : Nat)] rfl
    (fun j u hj => by
      have hrow : (w.alloc (.cells #[.int .u8 (b : Nat)] 5)).heap[w.heap.size]? = some (.cells #[.int .u8 (b : Nat)] 5 (0, 0)) := heap_alloc_new w _
      rw [K.addr0, cell_of_row _ _ j _ _ (0, 0) hrow]
      rw [← hj]; simp) (by intro u hu; rw [List.mem_singleton.1 hu]; rfl) (by omega) (by unfold maxLen; omega) (by omega) (by simp; omega)
  have hc : bCells xs ++ [.int .u8 (b : Nat)] = bCells (xs ++ [b]) := by simp [bCells]
  rw [hc] at h2
  obtain ⟨a', c', rfl⟩ := own_sliceB h2
  refine ⟨a', c', w', hr, h2, (World.grownBy_alloc w _ _).trans h3.1, ?_⟩
  rcases h3.2 with h | h | ⟨g, h, hg⟩
  · exact .inl h
  · exact .inr (.inl h)
  · exact .inr (.inr ⟨g, h, by simp at hg; omega⟩)

/-- The function hands back a row of bytes of its own. -/
def BRet (L : List Nat) (w : World) (e : Ending) (w' : World) : Prop := ∃ a c, e = .returned (.slice a L.length c) ∧ w'.ownsRow w.heap.size 5 1 (.slice a L.length c) L.length (bCells L) ∧ Below w.heap.size w w'
/-- Bytes behind bytes: they stand where the first ones stood, or in new memory. -/
def JRet (B : Nat) (v : Value) (L : List Nat) (w : World) (e : Ending) (w' : World) : Prop := ∃ a c, e = .returned (.slice a L.length c) ∧ w'.ownsRow B 5 1 (.slice a L.length c) L.length (bCells L) ∧ Grew w w' v (.slice a L.length c)

set_option maxRecDepth 100000 in
theorem join_any (B : Nat) (a : Option Addr) (c n : Nat) (l : List Nat) (b : Option Addr) (cb m : Nat) (r : List Nat) (w : World) (hn : l.length = n) (hm : r.length = m) (hown : w.ownsRow B 5 1 (.slice a n c) n (bCells l)) (hB : B ≤ w.heap.size)
    (hr : BAt w b r) (hd : ∀ g, (Value.slice a n c).ownBlock = some g → ∀ p, b = some p → p.block ≠ g) (hl : n + m ≤ 17592186044000) :
    Calls Tryz.prog 80 #[.slice a n c, .slice b m cb] w (JRet B (.slice a n c) (l ++ r) w) := by
  have HO := hid hown; have HR := hid hr; have HD := hid hd; have HN := hid hn; have HM := hid hm
  have HG0 : Hid (Grew w w (.slice a n c) (.slice a n c)) := hid ⟨⟨rfl, rfl, rfl, Nat.le_refl _, fun _ _ _ => rfl⟩, .inl rfl⟩
  clear hown hr hd hn hm
  obtain ⟨V, hV⟩ : ∃ V, V = Value.slice a n c := ⟨_, rfl⟩
  have HV := hid hV
  rw [← hV] at HG0 HD
  have HL : Hid (∀ g, V.ownBlock = some g → g < w.heap.size) := hid (by rw [hV]; exact fun g hg => (HO.out.lt g hg).2)
  have HQ : Hid (JRet B (Value.slice a n c) (l ++ r) w = JRet B V (l ++ r) w) := hid (by rw [hV])
  rw [HQ.out]
  clear hV HQ
  generalize hR : l ++ r = R
  have HR2 := hid hR
  clear hR
  go_enter Tryz.func80, Tryz.ntmps80
  go_upto_region 2 with fail
  go_loopw [0, 5] (fun t0 t5 wr => ∃ (j q : Nat) (L : List Nat) (a' : Option Addr) (c' : Nat), t0 = .slice a' q c' ∧ t5 = .int .i64 (j : Nat) ∧ j ≤ m ∧ Hid (q = n + j) ∧ Hid (L.length = q) ∧ Hid (L = l ++ r.take j) ∧ Hid (wr.ownsRow B 5 1 (.slice a' q c') q (bCells L)) ∧ Hid (Grew w wr V (.slice a' q c'))) (fun _ t5 _ => m - (intOf t5).toNat)
  case atStart => exact ⟨0, n, l, a, c, rfl, rfl, Nat.zero_le _, hid rfl, HN, hid (by simp), HO, by rw [← HV.out]; exact HG0⟩
  case round =>
    obtain ⟨j, q, L, a', c', rfl, rfl, hj, HQ, HLN, HLL, HW, HG⟩ := hrel
    have hz := HG.out.1.size
    by_cases hlt : j < m
    · have hlt' : (j : Int) < (m : Int) := by omega
      have hjl : j < r.length := by rw [HM.out]; exact hlt
      rcases HR.out.row with h0 | ⟨gb, o, hb, hbl, hcl⟩
      · rw [h0] at hjl; simp at hjl
      subst hb
      have hne := fun g hg => HD.out g hg _ rfl
      have k0 : wr.cell? ⟨gb, o + j, none⟩ = some (.int .u8 (r[j]?.getD 0 : Nat)) := (blk_cell (HG.out.1.block gb hbl (fun e => hne gb e.symm rfl)) _).trans (hcl j hjl)
      have hy : r[j]? = some (r[j]?.getD 0) := by rw [List.getElem?_eq_getElem hjl]; rfl
      generalize r[j]?.getD 0 = y at *
      obtain ⟨a2, c2, w2, hr, hown2, hg2⟩ := appG y HLN.out HW.out (by omega) (by have := HQ.out; omega)
      have HO2 := hid hown2
      have HG2 := hid (Grew.trans HG.out hg2)
      have HL2 : Hid (L ++ [y] = l ++ r.take (j + 1)) := hid (by rw [HLL.out, List.take_add_one, hy, List.append_assoc]; rfl)
      clear hown2 hg2 hcl hne hy
      go_upto_region 4 with fail
      go_wp2_with (at_builtin; refine Lib.wpList_append_run _ rfl _ _ _ _ rfl _ _ rfl rfl _ _ (hr _) ?_)
      go_roundw
      case rel => exact ⟨j + 1, q + 1, L ++ [y], a2, c2, rfl, by go_num, by omega, hid (by rw [HQ.out]; omega), hid (by rw [List.length_append, HLN.out]; rfl), HL2, HO2, HG2⟩
      case measure => simp [intOf]; omega
    · obtain rfl : j = m := by omega
      have e : R = L := by rw [← HR2.out, HLL.out, List.take_of_length_le (by rw [HM.out]; exact Nat.le_refl _)]
      subst e
      have HLN2 := HLN.out
      subst HLN2
      go_wp2_with fail
      go_ret
      exact ⟨a', c', rfl, HW.out, HG.out⟩
theorem low7 (u : Nat) : ((u : Int) % 128 + 128) % 256 = ((u % 128 + 128 : Nat) : Int) := by omega
theorem zig_pos {k : Int} (h0 : ¬ k < 0) : k * 2 = ((zig k : Nat) : Int) := by unfold zig; rw [if_pos (by omega)]; omega
theorem zig_neg {k : Int} (h0 : k < 0) : -(k + 1) * 2 + 1 = ((zig k : Nat) : Int) := by unfold zig; rw [if_neg (by omega)]; omega
set_option maxRecDepth 100000 in
theorem docNum_any (k : Int) (w : World) (hk : NumD k) : Calls Tryz.prog 81 #[.int .i64 k] w (BRet (numB k) w) := by
  have hzl := zig_lt hk.1 hk.2
  have hlen : (numB k).length ≤ 10 := by have := vlq_len 9 (zig k) (by omega); unfold numB; omega
  have HL := hid hlen
  obtain ⟨R, hR⟩ : ∃ R, R = numB k := ⟨_, rfl⟩
  rw [← hR] at HL ⊢
  unfold numB at hR
  have HR := hid hR.symm
  clear hlen hR
  have hkl := hk.1; have hkh := hk.2
  by_cases hneg : k < 0
  all_goals
    first | have hz := zig_neg hneg | have hz := zig_pos hneg
    have HZ := hid hz
    clear hz
    go_enter Tryz.func81, Tryz.ntmps81
    go_upto_region 5 with fail
    rw [HZ.out]
    generalize zig k = u0 at *
    clear HZ hk hkl hkh hneg
    have HB1 : Hid (Below w.heap.size w (w.alloc (.cells #[] 5))) := hid (Below.alloc1 (Nat.le_refl _) (Below.refl _ _) _)
    have HO1 : Hid ((w.alloc (.cells #[] 5)).ownsRow w.heap.size 5 1 (.slice (some ⟨w.heap.size, 0, none⟩) 0 0) 0 (bCells [])) := hid (World.ownsRow_made w #[] 0 (Nat.le_refl _) (by unfold maxLen; omega) rfl)
    generalize w.alloc (.cells #[] 5) = w1 at *
    go_loopw [3, 4] (fun t3 t4 wr => ∃ (L : List Nat) (m u : Nat) (a' : Option Addr) (c' : Nat), t4 = .slice a' m c' ∧ t3 = .int .u64 (u : Nat) ∧ u < 18446744073709551616 ∧ Hid (L.length = m) ∧ Hid (L ++ vlq u = R) ∧ Hid (wr.ownsRow w.heap.size 5 1 (.slice a' m c') m (bCells L)) ∧ Below w.heap.size w wr) (fun t3 _ _ => (intOf t3).toNat)
    case atStart => exact ⟨[], 0, u0, _, _, rfl, rfl, hzl, hid rfl, HR, HO1, HB1.out⟩
    case round =>
      obtain ⟨L, m, u, a', c', rfl, rfl, hu, HM, HQ, HW, hb⟩ := hrel
      have hml : m < 100 := by
        have h1 := congrArg List.length HQ.out
        have h3 := HL.out; have h4 := HM.out
        rw [List.length_append] at h1
        omega
      have hz2 := hb.size
      by_cases hlt : u < 128
      · have hlt' : ¬ 127 < ((u : Nat) : Int) := by omega
        have e8 := low8 hlt
        obtain ⟨a2, c2, w2, hr, hown2, hb2⟩ := appB u HM.out HW.out hz2 (by omega)
        go_upto_region 8 with fail
        go_wp2_with (at_builtin; refine Lib.wpList_append_run _ rfl _ _ _ _ rfl _ _ rfl rfl _ _ (hr _) ?_)
        go_ret
        have e : R = L ++ [u] := by rw [← HQ.out, vlq_lt hlt]
        rw [e]
        unfold BRet
        rw [List.length_append, HM.out]
        exact ⟨a2, c2, rfl, hown2, hb.trans hb2⟩
      · have hlt' : 127 < ((u : Nat) : Int) := by omega
        have e8 := low7 u
        obtain ⟨a2, c2, w2, hr, hown2, hb2⟩ := appB (u % 128 + 128) HM.out HW.out hz2 (by omega)
        have HO2 := hid hown2
        clear hown2
        go_upto_region 6 with fail
        go_wp2_with (at_builtin; refine Lib.wpList_append_run _ rfl _ _ _ _ rfl _ _ rfl rfl _ _ (hr _) ?_)
        go_roundw
        case rel => exact ⟨L ++ [u % 128 + 128], m + 1, u / 128, a2, c2, rfl, by go_num, by omega, hid (by rw [List.length_append, HM.out]; rfl), hid (by rw [List.append_assoc, List.singleton_append, ← vlq_ge hlt]; exact HQ.out), HO2, hb.trans hb2⟩
        case measure => simp [intOf]; omega
theorem key_step (u0 i : Nat) (hi : i < 8) : (keyB u0)[i]? = some (u0 * 256 ^ i % 18446744073709551616 / 72057594037927936) ∧ u0 * 256 ^ i % 18446744073709551616 * 256 % 18446744073709551616 = u0 * 256 ^ (i + 1) % 18446744073709551616 := by
  have : i = 0 ∨ i = 1 ∨ i = 2 ∨ i = 3 ∨ i = 4 ∨ i = 5 ∨ i = 6 ∨ i = 7 := by omega
  rcases this with rfl | rfl | rfl | rfl | rfl | rfl | rfl | rfl <;> simp [keyB] <;> omega
theorem shl_byte {v : Nat} : IntKind.u64.wrap ((v : Int) * 256) = ((v * 256 % 18446744073709551616 : Nat) : Int) := by
  rw [IntKind.wrap_u64]; omega
set_option maxRecDepth 100000 in
theorem docKey_any (x : Nat) (w : World) (hx : x < 2 ^ 64) : Calls Tryz.prog 83 #[.float .f64 x] w (BRet (keyB (codeN x)) w) := by
  have hu := codeN_lt x
  have hco := codeN_int x
  have HC := hid (refCode_any x hx)
  have HCO := hid hco
  clear hco
  go_enter Tryz.func83, Tryz.ntmps83
  go_upto_region 2 with (go_at_call 125; (with_reducible refine (HC.out _).mono ?_); rintro e w' ⟨rfl, rfl⟩)
  rw [← HCO.out]
  clear HC HCO
  generalize codeN x = u0 at *
  go_upto_region 4 with fail
  have HB1 : Hid (Below w.heap.size w (w.alloc (.cells #[] 5))) := hid (Below.alloc1 (Nat.le_refl _) (Below.refl _ _) _)
  have HO1 : Hid ((w.alloc (.cells #[] 5)).ownsRow w.heap.size 5 1 (.slice (some ⟨w.heap.size, 0, none⟩) 0 0) 0 (bCells [])) := hid (World.ownsRow_made w #[] 0 (Nat.le_refl _) (by unfold maxLen; omega) rfl)
  generalize w.alloc (.cells #[] 5) = w1 at *
  have HU := hid hu
  clear hu
  go_loopw [3, 4, 5] (fun t3 t4 t5 wr => ∃ (i m v : Nat) (L : List Nat) (a' : Option Addr) (c' : Nat), t5 = .int .i64 (i : Nat) ∧ t4 = .slice a' m c' ∧ t3 = .int .u64 (v : Nat) ∧ i ≤ 8 ∧ Hid (m = i) ∧ Hid (v = u0 * 256 ^ i % 18446744073709551616) ∧ Hid (L = (keyB u0).take i) ∧ Hid (L.length = m) ∧ Hid (wr.ownsRow w.heap.size 5 1 (.slice a' m c') m (bCells L)) ∧ Below w.heap.size w wr) (fun _ _ t5 _ => 8 - (intOf t5).toNat)
  case atStart => exact ⟨0, 0, u0, [], _, _, rfl, rfl, rfl, by omega, hid rfl, hid (by have := HU.out; omega), hid rfl, hid rfl, HO1, HB1.out⟩
  case round =>
    obtain ⟨i, m, v, L, a', c', rfl, rfl, rfl, hi, HM, HV, HL, HLN, HW, hb⟩ := hrel
    have hz2 := hb.size
    by_cases hlt : i < 8
    · have hlt' : (i : Int) < 8 := by omega
      obtain ⟨hk1, hk2⟩ := key_step u0 i hlt
      rw [← HV.out] at hk1 hk2
      have hv : v < 18446744073709551616 := by rw [HV.out]; exact Nat.mod_lt _ (by decide)
      have e1 : (v : Int) / 72057594037927936 = ((v / 72057594037927936 : Nat) : Int) := by omega
      have hd : ((v / 72057594037927936 : Nat) : Int) < 256 := by omega
      have e3 := shl_byte (v := v)
      have HV2 := hid hk2
      have HL2 : Hid (L ++ [v / 72057594037927936] = (keyB u0).take (i + 1)) := hid (by rw [HL.out, List.take_add_one, hk1]; rfl)
      clear hk1 hk2
      generalize v / 72057594037927936 = d at *
      generalize v * 256 % 18446744073709551616 = v2 at *
      obtain ⟨a2, c2, w2, hr, hown2, hb2⟩ := appB d HLN.out HW.out hz2 (by have := HM.out; omega)
      have HO2 := hid hown2
      clear hown2
      go_upto_region 6 with fail
      go_wp2_with (at_builtin; refine Lib.wpList_append_run _ rfl _ _ _ _ rfl _ _ rfl rfl _ _ (hr _) ?_)
      go_roundw
      case rel => exact ⟨i + 1, m + 1, v2, _, a2, c2, by go_num, rfl, rfl, by omega, hid (by rw [HM.out]), HV2, HL2, hid (by rw [List.length_append, HLN.out]; rfl), HO2, hb.trans hb2⟩
      case measure => simp [intOf]; omega
    · obtain rfl : i = 8 := by omega
      have e : L = keyB u0 := by rw [HL.out, List.take_of_length_le (by rw [keyB_len]; omega)]
      subst e
      have hm8 := HLN.out
      subst hm8
      go_wp2_with fail
      go_ret
      exact ⟨a', c', rfl, HW.out, hb⟩

/-- The row grew in its own memory. -/
def JB (B : Nat) (L : List Nat) (w : World) (e : Ending) (w' : World) : Prop := ∃ a c, e = .returned (.slice a L.length c) ∧ w'.ownsRow B 5 1 (.slice a L.length c) L.length (bCells L) ∧ Below B w w'
theorem join_new (B : Nat) (a : Option Addr) (c n : Nat) (l : List Nat) (a2 : Option Addr) (c2 m : Nat) (r : List Nat) (C : Nat) (w w2 : World) (hn : l.length = n) (hm : r.length = m) (hown : w.ownsRow B 5 1 (.slice a n c) n (bCells l)) (hB : B ≤ w.heap.size) (hC : w.heap.size ≤ C)
    (ho2 : w2.ownsRow C 5 1 (.slice a2 m c2) m (bCells r)) (hb2 : Below w.heap.size w w2) (hlt : ∀ x ∈ r, x < 256) (hl : n + m ≤ 17592186044000) :
    Calls Tryz.prog 80 #[.slice a n c, .slice a2 m c2] w2 (JB B (l ++ r) w2) := by
  have hz := hb2.size
  have ho1 := hown.kept (K.grown_of_below hb2) (by cases (Value.slice a n c).ownBlock <;> simp)
  refine (join_any B a c n l a2 c2 m r w2 hn hm ho1 (by omega) (own_bat hm ho2 (by omega) hlt) ?_ hl).mono ?_
  · intro g hg p hp e
    have h1 := (hown.lt g hg).2
    subst hp
    have h2 := (ho2.lt p.block rfl).1
    omega
  · rintro e w' ⟨a', c', he, ho, hg⟩
    exact ⟨a', c', he, ho, Grew.below (v := .slice a n c) (v' := .slice a' (l ++ r).length c') hg (fun g hg => (ho1.lt g hg).1) (by omega)⟩
theorem numB_byte (k : Int) : ∀ x ∈ numB k, x < 256 := vlq_byte _
theorem keyB_byte (u : Nat) : ∀ x ∈ keyB u, x < 256 := by
  intro x hx
  simp only [keyB, List.mem_cons, List.not_mem_nil, or_false] at hx
  rcases hx with rfl | rfl | rfl | rfl | rfl | rfl | rfl | rfl <;> omega
/-- How many, and these. -/
def keysB (xs : List Nat) : List Nat := numB xs.length ++ xs.flatMap fun x => keyB (codeN x)
theorem flatK_len (xs : List Nat) : (xs.flatMap fun x => keyB (codeN x)).length = xs.length * 8 := by
  induction xs with
  | nil => rfl
  | cons x xs ih => rw [List.flatMap_cons, List.length_append, ih, keyB_len, List.length_cons]; omega
theorem keysB_len (xs : List Nat) (h : xs.length ≤ 1000) : (keysB xs).length ≤ 10 + 8 * xs.length := by
  unfold keysB
  rw [List.length_append]
  have h1 := numB_len (n := xs.length) ⟨by omega, by omega⟩
  have h2 : (xs.flatMap fun x => keyB (codeN x)).length = xs.length * 8 := flatK_len xs
  omega
theorem flat_byte (xs : List Nat) : ∀ y ∈ xs.flatMap (fun x => keyB (codeN x)), y < 256 := by
  intro y hy
  obtain ⟨x, _, h⟩ := List.mem_flatMap.1 hy
  exact keyB_byte _ y h
theorem keysB_byte (xs : List Nat) : ∀ x ∈ keysB xs, x < 256 := by
  intro x hx
  rcases List.mem_append.1 hx with h | h
  · exact numB_byte _ x h
  · exact flat_byte _ x h
set_option maxRecDepth 100000 in
theorem docKeys_any (a : Option Addr) (c n : Nat) (xs : List Nat) (w : World) (hn : xs.length = n) (h : FAt w a xs) (hl : n ≤ 1000) :
    Calls Tryz.prog 82 #[.slice a n c] w (BRet (keysB xs) w) := by
  have HN := hid hn; have HF := hid h
  have HK : Hid (keysB xs = numB n ++ xs.flatMap fun x => keyB (codeN x)) := hid (by unfold keysB; rw [hn])
  clear hn h
  rw [HK.out]
  generalize hR : numB n ++ xs.flatMap (fun x => keyB (codeN x)) = R
  have HR := hid hR
  have HLR : Hid (R.length ≤ 10 + 8 * n) := hid (by rw [← hR, ← HK.out, ← HN.out]; exact keysB_len xs (by rw [HN.out]; exact hl))
  clear hR HK
  go_enter Tryz.func82, Tryz.ntmps82
  go_wp2_with fail
  refine (docNum_any n w ⟨by omega, by omega⟩).mono ?_
  rintro e w1 ⟨a1, c1, rfl, ho1, hb1⟩
  have HO1 := hid ho1
  have HL0 : Hid (numB n ++ (xs.take 0).flatMap (fun x => keyB (codeN x)) = numB n) := hid (by simp)
  generalize hq0 : (numB n).length = q0 at *
  have HQ0 := hid hq0
  clear ho1 hq0
  go_upto_region 3 with fail
  go_loopw [3, 4] (fun t3 t4 wr => ∃ (i q : Nat) (L : List Nat) (a' : Option Addr) (c' : Nat), t3 = .slice a' q c' ∧ t4 = .int .i64 (i : Nat) ∧ i ≤ n ∧ Hid (L.length = q) ∧ Hid (L = numB n ++ (xs.take i).flatMap (fun x => keyB (codeN x))) ∧ Hid (wr.ownsRow w.heap.size 5 1 (.slice a' q c') q (bCells L)) ∧ Below w.heap.size w wr) (fun _ t4 _ => n - (intOf t4).toNat)
  case atStart => exact ⟨0, q0, numB n, a1, c1, rfl, rfl, Nat.zero_le _, HQ0, hid HL0.out.symm, HO1, hb1⟩
  case round =>
    obtain ⟨i, q, L, a', c', rfl, rfl, hi, HQ, HL, HW, hb⟩ := hrel
    have hz := hb.size
    by_cases hlt : i < n
    · have hlt' : (i : Int) < (n : Int) := by omega
      have hil : i < xs.length := by rw [HN.out]; exact hlt
      rcases HF.out.row with h0 | ⟨gb, o, ha, hbl, hcl⟩
      · rw [h0] at hil; simp at hil
      subst ha
      have k0 := (hb.cell (p := ⟨gb, o + i, none⟩) hbl).trans (hcl i hil)
      have hy : xs[i]? = some (xs[i]?.getD 0) := by rw [List.getElem?_eq_getElem hil]; rfl
      have hxl := HF.out.lt i hil
      generalize xs[i]?.getD 0 = y at *
      have HL2 : Hid (L ++ keyB (codeN y) = numB n ++ (xs.take (i + 1)).flatMap (fun x => keyB (codeN x))) := hid (by rw [HL.out, List.take_add_one, hy, List.flatMap_append, List.append_assoc]; simp)
      have HQ9 : Hid (q ≤ 10 + 8 * i) := hid (by
        have h1 := numB_len (n := n) ⟨by omega, by omega⟩
        have h2 : ((xs.take i).flatMap fun x => keyB (codeN x)).length = (xs.take i).length * 8 := flatK_len _
        rw [← HQ.out, HL.out, List.length_append, h2, List.length_take]; omega)
      clear hcl hy
      go_upto_region 5 with fail
      go_wp2_with fail
      refine (docKey_any y wr hxl).mono ?_
      rintro e w2 ⟨a2, c2, rfl, ho2, hb2⟩
      have HJ := hid (join_new w.heap.size a' c' q L a2 c2 _ _ wr.heap.size wr w2 HQ.out rfl HW.out hz (Nat.le_refl _) ho2 hb2 (keyB_byte _) (by rw [keyB_len]; have := HQ9.out; omega))
      have hz2 := hb2.size
      clear ho2
      generalize (keyB (codeN y)).length = m8 at *
      go_wp2_with fail
      refine HJ.out.mono ?_
      rintro e w3 ⟨a3, c3, rfl, ho3, hb3⟩
      have HO3 := hid ho3
      clear ho3 HJ
      generalize hq3 : (L ++ keyB (codeN y)).length = q3 at *
      have HQ3 := hid hq3
      clear hq3
      have hb23 := (hb.trans (hb2.mono hz)).trans hb3
      go_wp2_with fail
      go_roundw
      case rel => exact ⟨i + 1, q3, _, a3, c3, rfl, by go_num, by omega, HQ3, HL2, HO3, hb23⟩
      case measure => simp [intOf]; omega
    · obtain rfl : i = n := by omega
      have e : L = R := by rw [← HR.out, HL.out, List.take_of_length_le (by rw [HN.out]; exact Nat.le_refl _)]
      subst e
      have hq := HQ.out
      subst hq
      go_wp2_with fail
      go_ret
      exact ⟨a', c', rfl, HW.out, hb⟩
end Go.Proofs.YtekmadgacepdfaaGreat.P
