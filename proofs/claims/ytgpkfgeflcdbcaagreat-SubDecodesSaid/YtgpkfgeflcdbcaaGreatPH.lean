/- The document's GetNum. -/
import Derived.Test.YtgpkfgeflcdbcaaGreatMPR
namespace Go.Proofs.YtgpkfgeflcdbcaaGreat.P
set_option linter.unusedVariables false
open Go.RowKit Fl

/-- How many bytes the number has. -/
def gotN (bs : List Nat) (o : Option (Nat × List Nat)) : Value := match o with
  | none => .tuple #[.int .i64 0, .int .i64 0]
  | some (u, r) => .tuple #[.int .i64 (zag u), .int .i64 ((bs.length - r.length : Nat) : Int)]
theorem gotN_some {bs : List Nat} {i n U : Nat} (hn : bs.length = n) (hi : i < n) : gotN bs (some (U, bs.drop (i + 1))) = .tuple #[.int .i64 (zag U), .int .i64 ((i : Int) + 1)] := by
  have e : ((bs.length - (bs.drop (i + 1)).length : Nat) : Int) = (i : Int) + 1 := by rw [List.length_drop, hn]; omega
  show Value.tuple #[.int .i64 (zag U), .int .i64 ((bs.length - (bs.drop (i + 1)).length : Nat) : Int)] = _
  rw [e]
theorem half_wrap {u : Nat} (h : u < 18446744073709551616) : wrap64 (IntKind.u64.wrap ((u : Int) / 2)) = (u : Int) / 2 := by
  rw [IntKind.wrap_u64]; unfold wrap64; omega
theorem half_neg {u : Nat} (h : u < 18446744073709551616) : wrap64 (wrap64 (-wrap64 (IntKind.u64.wrap ((u : Int) / 2))) - 1) = -((u : Int) / 2) - 1 := by
  rw [half_wrap h]
  have h1 : wrap64 (-((u : Int) / 2)) = -((u : Int) / 2) := by unfold wrap64; omega
  rw [h1]; unfold wrap64; omega
theorem rem_wrap (u : Nat) : IntKind.u64.wrap ((u : Int) % 2) = (u : Int) % 2 := by rw [IntKind.wrap_u64]; omega
theorem zag_even {u : Nat} (h : u % 2 = 0) : zag u = (u : Int) / 2 := by unfold zag; rw [if_pos h]; omega
theorem zag_odd {u : Nat} (h : ¬ u % 2 = 0) : zag u = -((u : Int) / 2) - 1 := by unfold zag; rw [if_neg h]; omega
theorem mod128 (c : Nat) (h : c < 256) : IntKind.u64.wrap ((c : Int) % 128) = ((c % 128 : Nat) : Int) := by rw [IntKind.wrap_u64]; omega
set_option maxHeartbeats 2000000 in
set_option maxRecDepth 100000 in
theorem getNum_any (a : Option Addr) (c0 n : Nat) (bs : List Nat) (w : World) (hn : bs.length = n) (h : BAt w a bs) (hl : n ≤ 9223372036854775807) :
    Calls Tryz.prog 57 #[.slice a n c0] w fun e w' => e = .returned (gotN bs (getV 0 0 bs)) ∧ w = w' := by
  have HB := hid h; have HN := hid hn
  clear h hn
  generalize hq : gotN bs (getV 0 0 bs) = q
  have HQ := hid hq
  clear hq
  go_enter Tryz.func57, Tryz.ntmps57
  go_upto_region 3 with fail
  go_loopw [4, 5] (fun t4 t5 wr => ∃ (i u : Nat), t4 = .int .u64 (u : Nat) ∧ t5 = .int .i64 (i : Nat) ∧ i ≤ n ∧ i ≤ 9 ∧ Hid (u < 128 ^ i) ∧ Hid (gotN bs (getV i u (bs.drop i)) = q) ∧ wr = w) (fun _ t5 _ => 20 - (intOf t5).toNat)
  case atStart => exact ⟨0, 0, rfl, rfl, Nat.zero_le _, by omega, hid (by decide), HQ, rfl⟩
  case round =>
    obtain ⟨i, u, rfl, rfl, hin, hi9, HU, HG, rfl⟩ := hrel
    by_cases hlt : i < n
    · have hlt' : (i : Int) < (n : Int) := by omega
      have h10 : (i : Int) < 10 := by omega
      have hil : i < bs.length := by rw [HN.out]; exact hlt
      rcases HB.out.row with h0 | ⟨b, o, ha, hbl, hcl⟩
      · rw [h0] at hil; simp at hil
      subst ha
      have k0 := hcl i hil
      have hy : bs[i]? = some (bs[i]?.getD 0) := by rw [List.getElem?_eq_getElem hil]; rfl
      have hc : bs[i]?.getD 0 < 256 := HB.out.lt _ (List.mem_of_getElem? hy)
      have hdr : bs.drop i = (bs[i]?.getD 0) :: bs.drop (i + 1) := by
        rw [List.drop_eq_getElem_cons hil]; congr 1
        rw [List.getElem?_eq_getElem hil]; rfl
      generalize bs[i]?.getD 0 = c at *
      have hG := HG.out
      rw [hdr, getV] at hG
      clear hcl hy hdr HG HQ
      have e1 := mod128 c hc
      have hlen : (bs.drop (i + 1)).length = n - (i + 1) := by rw [List.length_drop, HN.out]
      by_cases hF : (i = 9 ∧ 1 < c) ∨ (0 < i ∧ c = 0)
      · rw [if_pos hF] at hG
        subst hG
        rcases hF with ⟨rfl, hc1⟩ | ⟨hi0, rfl⟩
        · have hc1' : 1 < (c : Int) := by omega
          go_wp2_with fail
          exact bodyPost_ret (v := .tuple #[.int .i64 0, .int .i64 0]) (by simp [results, Tryz.results57, go_sem]) rfl ⟨rfl, rfl⟩
        · by_cases h9 : i = 9
          · subst h9
            go_wp2_with fail
            exact bodyPost_ret (v := .tuple #[.int .i64 0, .int .i64 0]) (by simp [results, Tryz.results57, go_sem]) rfl ⟨rfl, rfl⟩
          · have h9' : ¬ (i : Int) = 9 := by omega
            have hi0' : 0 < (i : Int) := by omega
            go_wp2_with fail
            exact bodyPost_ret (v := .tuple #[.int .i64 0, .int .i64 0]) (by simp [results, Tryz.results57, go_sem]) rfl ⟨rfl, rfl⟩
      · rw [if_neg hF] at hG
        have hcases : (i = 9 ∧ c = 1) ∨ i = 0 ∨ (i ≠ 9 ∧ 0 < i ∧ c ≠ 0) := by omega
        have hstep : ∀ k, k ≤ i → (c % 128) * 128 ^ k < 18446744073709551616 := fun k hk => by
          have h1 : 128 ^ k ≤ 128 ^ i := Nat.pow_le_pow_right (by decide) hk
          have h2 := (step_lt (u := 0) (c := c % 128) hi9 (by exact Nat.pow_pos (by decide)) (Nat.mod_lt _ (by decide)) (by omega)).1
          exact Nat.lt_of_le_of_lt (Nat.mul_le_mul_left _ h1) h2
        have hsum := (step_lt (u := u) (c := c % 128) hi9 HU.out (Nat.mod_lt _ (by decide)) (by omega)).2
        have HST := hid hstep
        have HSUM := hid hsum
        have HGG := hid hG
        clear hG hstep hsum hF
        have hg9 : i = 9 → ¬ (1 < (c : Int)) := by omega
        rcases hcases with ⟨hi9n, hcc⟩ | rfl | ⟨h9, hi0, hc0⟩
        · have e9 : (i : Int) = 9 := by omega
          have hcn : ¬ 1 < (c : Int) := by omega
          have hcz : ¬ (c : Int) = 0 := by omega
          have hcl : c ≤ 1 := by omega
          have k9 : wr.cell? ⟨b, o + 9, none⟩ = some (.int .u8 (c : Nat)) := by rw [← hi9n]; exact k0
          have HCC := hid hcc
          have HI9 := hid hi9n
          clear hcc k0 hi9n hg9
          go_upto_region 9 with fail
          go_loopw [6, 7] (fun t6 t7 wr2 => ∃ k : Nat, t6 = .int .u64 ((c % 128 * 128 ^ k : Nat) : Int) ∧ t7 = .int .i64 (k : Nat) ∧ k ≤ i ∧ wr2 = wr) (fun _ t7 _ => i - (intOf t7).toNat)
          case atStart => exact ⟨0, by simp, rfl, Nat.zero_le _, rfl⟩
          case round =>
            obtain ⟨k, rfl, rfl, hki, rfl⟩ := hrel
            by_cases hk : k < i
            · have hk' : (k : Int) < 9 := by omega
              have hs := HST.out (k + 1) (by omega)
              have hmul : IntKind.u64.wrap (((c % 128 * 128 ^ k : Nat) : Int) * 128) = ((c % 128 * 128 ^ (k + 1) : Nat) : Int) := by
                rw [IntKind.wrap_u64]
                rw [Nat.pow_succ, ← Nat.mul_assoc] at hs ⊢
                omega
              generalize hp2 : c % 128 * 128 ^ (k + 1) = p2 at *
              have HP := hid hp2
              clear hp2
              generalize c % 128 * 128 ^ k = p1 at *
              go_wp2_with fail
              go_roundw
              case rel => exact ⟨k + 1, by rw [HP.out], by go_num, by omega, by first | rfl | trivial⟩
              case measure => simp [intOf]; omega
            · obtain rfl : i = k := by omega
              have hs := HSUM.out
              have hadd : IntKind.u64.wrap ((u : Int) + ((c % 128 * 128 ^ i : Nat) : Int)) = ((u + c % 128 * 128 ^ i : Nat) : Int) := by rw [IntKind.wrap_u64]; omega
              have hG := HGG.out
              have HU2 : Hid (u + c % 128 * 128 ^ i < 128 ^ (i + 1)) := hid (by
                rw [Nat.pow_succ]
                have h1 := HU.out
                have h2 := Nat.mul_le_mul_right (128 ^ i) (show c % 128 ≤ 127 by omega)
                omega)
              clear HST HSUM HU HGG
              by_cases hc1 : c < 128
              · rw [if_pos hc1] at hG
                have ec : c % 128 = c := by omega
                have HQ2 : Hid (q = .tuple #[.int .i64 (zag (u + c % 128 * 128 ^ i)), .int .i64 (10)]) := hid (by
                  rw [← hG, ec]; exact (gotN_some HN.out (by omega)).trans (by rw [e9]; rfl))
                have hc1' : (c : Int) < 128 := by omega
                generalize u + c % 128 * 128 ^ i = U at *
                generalize c % 128 * 128 ^ i = P at *
                clear hG ec
                have HUL : Hid (U < 18446744073709551616) := hid hs
                clear hs
                have hw1 := half_wrap HUL.out
                have hw2 := half_neg HUL.out
                have hw3 := rem_wrap U
                have HW := hid (And.intro hw1 (And.intro hw2 hw3))
                clear hw1 hw2 hw3 
                go_upto_region 14 with fail
                by_cases hu2 : U % 2 = 0
                · have h2 : ¬ (U : Int) % 2 = 1 := by omega
                  go_wp2_with fail
                  obtain ⟨hw1, hw2, _⟩ := HW.out
                  have hz := zag_even hu2
                  have hq := HQ2.out
                  rw [hz, ← hw1] at hq
                  subst hq
                  clear hw1 hw2 hz
                  exact bodyPost_ret (v := .tuple #[.int .i64 (wrap64 (IntKind.u64.wrap ((U : Int) / 2))), .int .i64 (10)]) (by simp [results, Tryz.results57, go_sem]) rfl ⟨rfl, rfl⟩
                · have h2 : (U : Int) % 2 = 1 := by omega
                  go_wp2_with fail
                  obtain ⟨hw1, hw2, _⟩ := HW.out
                  have hz := zag_odd hu2
                  have hq := HQ2.out
                  rw [hz, ← hw2] at hq
                  subst hq
                  clear hw1 hw2 hz
                  exact bodyPost_ret (v := .tuple #[.int .i64 (wrap64 (wrap64 (-wrap64 (IntKind.u64.wrap ((U : Int) / 2))) - 1)), .int .i64 (10)]) (by simp [results, Tryz.results57, go_sem]) rfl ⟨rfl, rfl⟩
              · rw [if_neg hc1] at hG
                have hc1' : ¬ (c : Int) < 128 := by omega
                have h8 : i ≤ 8 := by omega
                have HG2 : Hid (gotN bs (getV (i + 1) (u + c % 128 * 128 ^ i) (bs.drop (i + 1))) = q) := hid hG
                generalize u + c % 128 * 128 ^ i = U at *
                generalize c % 128 * 128 ^ i = P at *
                clear hG hs
                go_wp2_with fail
                go_roundw
                case rel => exact ⟨i + 1, U, rfl, by go_num, by omega, by omega, HU2, HG2, by first | rfl | trivial⟩
                case measure => first | (simp [intOf]; done) | (simp [intOf]; omega)
        · rw [Nat.add_zero] at k0
          go_upto_region 9 with fail
          go_loopw [6, 7] (fun t6 t7 wr2 => ∃ k : Nat, t6 = .int .u64 ((c % 128 * 128 ^ k : Nat) : Int) ∧ t7 = .int .i64 (k : Nat) ∧ k ≤ 0 ∧ wr2 = wr) (fun _ t7 _ => 0 - (intOf t7).toNat)
          case atStart => exact ⟨0, by simp, rfl, Nat.zero_le _, rfl⟩
          case round =>
            obtain ⟨k, rfl, rfl, hki, rfl⟩ := hrel
            by_cases hk : k < 0
            · have hk' : (k : Int) < 0 := by omega
              have hs := HST.out (k + 1) (by omega)
              have hmul : IntKind.u64.wrap (((c % 128 * 128 ^ k : Nat) : Int) * 128) = ((c % 128 * 128 ^ (k + 1) : Nat) : Int) := by
                rw [IntKind.wrap_u64]
                rw [Nat.pow_succ, ← Nat.mul_assoc] at hs ⊢
                omega
              generalize hp2 : c % 128 * 128 ^ (k + 1) = p2 at *
              have HP := hid hp2
              clear hp2
              generalize c % 128 * 128 ^ k = p1 at *
              go_wp2_with fail
              go_roundw
              case rel => exact ⟨k + 1, by rw [HP.out], by go_num, by omega, by first | rfl | trivial⟩
              case measure => simp [intOf]; omega
            · obtain rfl : k = 0 := by omega
              have hs := HSUM.out
              have hadd : IntKind.u64.wrap ((u : Int) + ((c % 128 * 128 ^ 0 : Nat) : Int)) = ((u + c % 128 * 128 ^ 0 : Nat) : Int) := by rw [IntKind.wrap_u64]; omega
              have hG := HGG.out
              have HU2 : Hid (u + c % 128 * 128 ^ 0 < 128 ^ (0 + 1)) := hid (by
                rw [Nat.pow_succ]
                have h1 := HU.out
                have h2 := Nat.mul_le_mul_right (128 ^ 0) (show c % 128 ≤ 127 by omega)
                omega)
              clear HST HSUM HU HGG
              by_cases hc1 : c < 128
              · rw [if_pos hc1] at hG
                have ec : c % 128 = c := by omega
                have HQ2 : Hid (q = .tuple #[.int .i64 (zag (u + c % 128 * 128 ^ 0)), .int .i64 (((0 : Nat) : Int) + 1)]) := hid (by
                  rw [← hG, ec]; exact (gotN_some HN.out (by omega)).trans rfl)
                have hc1' : (c : Int) < 128 := by omega
                generalize u + c % 128 * 128 ^ 0 = U at *
                generalize c % 128 * 128 ^ 0 = P at *
                clear hG ec
                have HUL : Hid (U < 18446744073709551616) := hid hs
                clear hs
                have hw1 := half_wrap HUL.out
                have hw2 := half_neg HUL.out
                have hw3 := rem_wrap U
                have HW := hid (And.intro hw1 (And.intro hw2 hw3))
                clear hw1 hw2 hw3 
                go_upto_region 14 with fail
                by_cases hu2 : U % 2 = 0
                · have h2 : ¬ (U : Int) % 2 = 1 := by omega
                  go_wp2_with fail
                  obtain ⟨hw1, hw2, _⟩ := HW.out
                  have hz := zag_even hu2
                  have hq := HQ2.out
                  rw [hz, ← hw1] at hq
                  subst hq
                  clear hw1 hw2 hz
                  exact bodyPost_ret (v := .tuple #[.int .i64 (wrap64 (IntKind.u64.wrap ((U : Int) / 2))), .int .i64 (1)]) (by simp [results, Tryz.results57, go_sem]) rfl ⟨rfl, rfl⟩
                · have h2 : (U : Int) % 2 = 1 := by omega
                  go_wp2_with fail
                  obtain ⟨hw1, hw2, _⟩ := HW.out
                  have hz := zag_odd hu2
                  have hq := HQ2.out
                  rw [hz, ← hw2] at hq
                  subst hq
                  clear hw1 hw2 hz
                  exact bodyPost_ret (v := .tuple #[.int .i64 (wrap64 (wrap64 (-wrap64 (IntKind.u64.wrap ((U : Int) / 2))) - 1)), .int .i64 (1)]) (by simp [results, Tryz.results57, go_sem]) rfl ⟨rfl, rfl⟩
              · rw [if_neg hc1] at hG
                have hc1' : ¬ (c : Int) < 128 := by omega
                have h8 : 0 ≤ 8 := by omega
                have HG2 : Hid (gotN bs (getV (0 + 1) (u + c % 128 * 128 ^ 0) (bs.drop (0 + 1))) = q) := hid hG
                generalize u + c % 128 * 128 ^ 0 = U at *
                generalize c % 128 * 128 ^ 0 = P at *
                clear hG hs
                go_wp2_with fail
                go_roundw
                case rel => exact ⟨0 + 1, U, rfl, by go_num, by omega, by omega, HU2, HG2, by first | rfl | trivial⟩
                case measure => first | (simp [intOf]; done) | (simp [intOf]; omega)
        · have h9' : ¬ (i : Int) = 9 := by omega
          have h0' : 0 < (i : Int) := by omega
          have hc0' : ¬ (c : Int) = 0 := by omega
          go_upto_region 9 with fail
          go_loopw [6, 7] (fun t6 t7 wr2 => ∃ k : Nat, t6 = .int .u64 ((c % 128 * 128 ^ k : Nat) : Int) ∧ t7 = .int .i64 (k : Nat) ∧ k ≤ i ∧ wr2 = wr) (fun _ t7 _ => i - (intOf t7).toNat)
          case atStart => exact ⟨0, by simp, rfl, Nat.zero_le _, rfl⟩
          case round =>
            obtain ⟨k, rfl, rfl, hki, rfl⟩ := hrel
            by_cases hk : k < i
            · have hk' : (k : Int) < (i : Int) := by omega
              have hs := HST.out (k + 1) (by omega)
              have hmul : IntKind.u64.wrap (((c % 128 * 128 ^ k : Nat) : Int) * 128) = ((c % 128 * 128 ^ (k + 1) : Nat) : Int) := by
                rw [IntKind.wrap_u64]
                rw [Nat.pow_succ, ← Nat.mul_assoc] at hs ⊢
                omega
              generalize hp2 : c % 128 * 128 ^ (k + 1) = p2 at *
              have HP := hid hp2
              clear hp2
              generalize c % 128 * 128 ^ k = p1 at *
              go_wp2_with fail
              go_roundw
              case rel => exact ⟨k + 1, by rw [HP.out], by go_num, by omega, by first | rfl | trivial⟩
              case measure => simp [intOf]; omega
            · obtain rfl : i = k := by omega
              have hs := HSUM.out
              have hadd : IntKind.u64.wrap ((u : Int) + ((c % 128 * 128 ^ i : Nat) : Int)) = ((u + c % 128 * 128 ^ i : Nat) : Int) := by rw [IntKind.wrap_u64]; omega
              have hG := HGG.out
              have HU2 : Hid (u + c % 128 * 128 ^ i < 128 ^ (i + 1)) := hid (by
                rw [Nat.pow_succ]
                have h1 := HU.out
                have h2 := Nat.mul_le_mul_right (128 ^ i) (show c % 128 ≤ 127 by omega)
                omega)
              clear HST HSUM HU HGG
              by_cases hc1 : c < 128
              · rw [if_pos hc1] at hG
                have ec : c % 128 = c := by omega
                have HQ2 : Hid (q = .tuple #[.int .i64 (zag (u + c % 128 * 128 ^ i)), .int .i64 ((i : Int) + 1)]) := hid (by
                  rw [← hG, ec]; exact (gotN_some HN.out (by omega)).trans rfl)
                have hc1' : (c : Int) < 128 := by omega
                generalize u + c % 128 * 128 ^ i = U at *
                generalize c % 128 * 128 ^ i = P at *
                clear hG ec
                have HUL : Hid (U < 18446744073709551616) := hid hs
                clear hs
                have hw1 := half_wrap HUL.out
                have hw2 := half_neg HUL.out
                have hw3 := rem_wrap U
                have HW := hid (And.intro hw1 (And.intro hw2 hw3))
                clear hw1 hw2 hw3 
                go_upto_region 14 with fail
                by_cases hu2 : U % 2 = 0
                · have h2 : ¬ (U : Int) % 2 = 1 := by omega
                  go_wp2_with fail
                  obtain ⟨hw1, hw2, _⟩ := HW.out
                  have hz := zag_even hu2
                  have hq := HQ2.out
                  rw [hz, ← hw1] at hq
                  subst hq
                  clear hw1 hw2 hz
                  exact bodyPost_ret (v := .tuple #[.int .i64 (wrap64 (IntKind.u64.wrap ((U : Int) / 2))), .int .i64 ((i : Int) + 1)]) (by simp [results, Tryz.results57, go_sem]) rfl ⟨rfl, rfl⟩
                · have h2 : (U : Int) % 2 = 1 := by omega
                  go_wp2_with fail
                  obtain ⟨hw1, hw2, _⟩ := HW.out
                  have hz := zag_odd hu2
                  have hq := HQ2.out
                  rw [hz, ← hw2] at hq
                  subst hq
                  clear hw1 hw2 hz
                  exact bodyPost_ret (v := .tuple #[.int .i64 (wrap64 (wrap64 (-wrap64 (IntKind.u64.wrap ((U : Int) / 2))) - 1)), .int .i64 ((i : Int) + 1)]) (by simp [results, Tryz.results57, go_sem]) rfl ⟨rfl, rfl⟩
              · rw [if_neg hc1] at hG
                have hc1' : ¬ (c : Int) < 128 := by omega
                have h8 : i ≤ 8 := by omega
                have HG2 : Hid (gotN bs (getV (i + 1) (u + c % 128 * 128 ^ i) (bs.drop (i + 1))) = q) := hid hG
                generalize u + c % 128 * 128 ^ i = U at *
                generalize c % 128 * 128 ^ i = P at *
                clear hG hs
                go_wp2_with fail
                go_roundw
                case rel => exact ⟨i + 1, U, rfl, by go_num, by omega, by omega, HU2, HG2, by first | rfl | trivial⟩
                case measure => first | (simp [intOf]; done) | (simp [intOf]; omega)
    · obtain rfl : i = n := by omega
      have hG := HG.out
      rw [List.drop_of_length_le (by rw [HN.out]; exact Nat.le_refl _), getV] at hG
      subst hG
      go_wp2_with fail
      exact bodyPost_ret (v := .tuple #[.int .i64 0, .int .i64 0]) (by simp [results, Tryz.results57, go_sem]) rfl ⟨rfl, rfl⟩
end Go.Proofs.YtgpkfgeflcdbcaaGreat.P
