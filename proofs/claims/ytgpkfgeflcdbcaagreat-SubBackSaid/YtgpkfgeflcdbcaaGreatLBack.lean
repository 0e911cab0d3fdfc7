/- The walk of SubBack. -/
import Derived.Test.YtgpkfgeflcdbcaaGreatMPD
namespace Go.Proofs.YtgpkfgeflcdbcaaGreat.P
set_option linter.unusedVariables false
open Go.RowKit Fl

theorem BAt.belowB {w : World} {a : Option Addr} {c : Nat} {bs : List Nat} (h : BAt w a bs) (hc : bs.length ≤ c) : BelowB w.heap.size w a c bs := ⟨h.row, h.lt, hc⟩
/-- A beginning of bytes. -/
theorem BelowB.take {w : World} {a : Option Addr} {c B : Nat} {bs : List Nat} (h : BelowB B w a c bs) (n : Nat) : BelowB B w a c (bs.take n) := by
  refine ⟨?_, fun x hx => h.lt x (List.mem_of_mem_take hx), by rw [List.length_take]; have := h.cap; omega⟩
  rcases h.row with h0 | ⟨b, o, h1, h2, h3⟩
  · rw [h0]; exact .inl (by simp)
  · refine .inr ⟨b, o, h1, h2, fun i hi => ?_⟩
    rw [List.length_take] at hi
    rw [List.getElem?_take_of_lt (by omega)]
    exact h3 i (by omega)
theorem and4095 (n : Int) (h1 : -9223372036854775808 ≤ n) (h2 : n ≤ 9223372036854775807) : ∃ k : Nat, bits BinOp.and IntKind.i64 n 4095 = (k : Int) ∧ k < 4096 := by
  have hx : ((BitVec.ofInt 64 n &&& BitVec.ofInt 64 4095).toNat) < 4096 := by
    rw [BitVec.toNat_and, show (BitVec.ofInt 64 4095).toNat = 4095 from rfl]
    exact Nat.lt_succ_of_le Nat.and_le_right
  refine ⟨(BitVec.ofInt 64 n &&& BitVec.ofInt 64 4095).toNat, ?_, hx⟩
  show IntKind.i64.wrap ((BitVec.ofInt 64 n &&& BitVec.ofInt 64 4095).toNat : Int) = _
  generalize (BitVec.ofInt 64 n &&& BitVec.ofInt 64 4095).toNat = k at *
  simp [IntKind.wrap, IntKind.bits, IntKind.signed]
  omega
set_option maxHeartbeats 1000000 in
set_option maxRecDepth 100000 in
theorem subBack_walk (a : Option Addr) (c : Nat) (bs : List Nat) (at0 : Int) (w : World) (h : BAt w a bs) (hc : bs.length ≤ c) (hat : -9223372036854775808 ≤ at0 ∧ at0 ≤ 9223372036854775807) :
    Calls Tryz.prog 6 #[.slice a bs.length c, .int .i64 at0] w (Ret (.bool true) w) := by
  have HB := hid h
  have hlt := hid h.lt
  obtain ⟨k, hk, hk4⟩ := and4095 at0 hat.1 hat.2
  clear h hat
  have HC := hid hc
  clear hc
  go_enter Tryz.func6, Tryz.ntmps6
  go_upto_region 3 with (go_at_call 16; (with_reducible refine (coding_any _).mono ?_); rintro e w1 ⟨rfl, hb1⟩; obtain ⟨hc1, hf1⟩ := bcell hb1; (try simp only [World.heap_drewN, World.cell?_drewN, World.frozen?_drewN] at hc1 hf1); have hz1 := hb1.size; (try simp at hz1); (try have hy1_0 : w.heap.size < w1.heap.size := by omega); (try have hy1_1 : w.heap.size + 1 < w1.heap.size := by omega); (try have hy1_2 : w.heap.size + 2 < w1.heap.size := by omega); (try have hy1_3 : w.heap.size + 3 < w1.heap.size := by omega); (try have hx1_0 : w.heap.size ≤ w1.heap.size := by omega); (try have hx1_1 : w.heap.size + 1 ≤ w1.heap.size := by omega); (try have hx1_2 : w.heap.size + 2 ≤ w1.heap.size := by omega))
  go_wp2_with fail
  refine (decode_any a c bs w1 ((HB.out.below hb1).belowB HC.out)).mono ?_
  intro e w2 h2
  cases hd : dec bs with
  | none =>
    rw [hd] at h2
    obtain ⟨rfl, hb2⟩ := h2
    have hb12 := hb1.trans (hb2.mono hb1.size)
    go_wp2_with fail
    go_ret
    exact ⟨rfl, Below.alloc1 hb12.size hb12 _⟩
  | some t =>
    rw [hd] at h2
    obtain ⟨x, hx1, hx2, rfl, hb2⟩ := h2
    have hb12 := hb1.trans (hb2.mono hb1.size)
    have hz2 := hb2.size
    have hck : K.SubV.check x = 0 := by rw [hx1.check]; exact (dec_some hd).2
    have hen : encO x = bs := by
      have h1 := dec_enc hlt.out hd
      rw [← h1]
      unfold encO
      rw [if_pos hck, if_pos (dec_some hd).2, packB_dB, packB_dB, hx1.eqD]
    have hlen : bs ≠ [] := by
      intro h0
      rw [h0] at hd
      have := (dec_some hd).1
      unfold parse at this
      rw [both_none (by rfl)] at this
      cases this
    have hpos : 0 < bs.length := List.length_pos_iff.2 hlen
    have hkm : k % bs.length < bs.length := Nat.mod_lt _ hpos
    have hpre := dec_pre hlt.out hd (k % bs.length) hkm
    have hsm := (eqX_iff x x).2 ⟨hck, hck, ⟨rfl, rfl, rfl, rfl, rfl, rfl⟩⟩
    have HX2 := hid hx2
    go_upto_region 4 with fail
    generalize hW3 : World.alloc _ _ = w3 at *
    have hb3 : Below w2.heap.size w2 w3 := by rw [← hW3]; (repeat (first | with_reducible exact Below.refl _ _ | ((with_reducible refine Below.alloc1 ?_ ?_ _); (· first | omega | (simp; done) | (simp; omega))) | (with_reducible refine Below.drew ?_) | (with_reducible refine below_drewN' ?_ _) | ((with_reducible refine Below.setCell1 ?_ ?_ _); (· first | omega | (simp; done) | (simp; omega))) | ((with_reducible refine Below.after (by assumption) ?_ ?_); (· first | omega | (simp; done) | (simp; omega)))))
    have hz3 : w2.heap.size < w3.heap.size := by rw [← hW3]; simp
    have q3 : w3.heap[w2.heap.size]? = some (.cells #[.int .i64 x.s0, .int .i64 x.s1, .int .i64 x.s2, .slice x.ra x.rs.length x.rc, .slice x.sa x.ss.length x.sc, .slice x.wa x.ws.length x.wc] 25 (0, 0)) := by rw [← hW3]; simpa using heap_alloc_new w2 _
    have hb13 := hb12.trans (hb3.mono hb12.size)
    clear hW3 hx1 hx2 hd hlen
    have AX := hid fun W (hb : Below w3.heap.size w3 W) => HX2.out.below (hb3.trans (hb.mono (Nat.le_of_lt hz3)))
    have BX := hid fun W (hb : Below w3.heap.size w3 W) => box6 ((hb.block _ hz3).trans q3)
    have AB := hid fun W (hb : Below w3.heap.size w3 W) => HB.out.below (hb13.trans (hb.mono hb13.size))
    have HE := fun W hb => encode_any x W (AX.out W hb)
    have HK := fun W hb => K.check_any x W (AX.out W hb)
    have HS := fun W hb => subSame_any x x W (AX.out W hb) (AX.out W hb)
    rw [hck] at HK
    rw [hsm] at HS
    have HEH : Hid (∀ W, Below w3.heap.size w3 W → Calls Tryz.prog 17 #[.agg #[.int .i64 x.s0, .int .i64 x.s1, .int .i64 x.s2, .slice x.ra x.rs.length x.rc, .slice x.sa x.ss.length x.sc, .slice x.wa x.ws.length x.wc]] W fun e w' => ∃ a c, e = .returned (.tuple #[.slice a bs.length c, .int .i64 0]) ∧ BAt w' a bs ∧ Below W.heap.size W w') := hid fun W hb => (HE W hb).mono fun e w' ⟨a, c, he, ho, hbb⟩ => ⟨a, c, by rw [he, hen, hck], by have := EncRet.bat (AX.out W hb) ho; rwa [hen] at this, hbb⟩
    clear q3 hen hck hsm HE
    generalize hnn : bs.length = n at *
    obtain ⟨b0, b1, b2, b3, b4, b5⟩ := BX.out w3 (Below.refl _ _)
    go_wp2_with fail
    refine (HEH.out w3 (Below.refl _ _)).mono ?_
    rintro e w4 ⟨a4, c4, rfl, hB4, hb4⟩
    clear b0 b1 b2 b3 b4 b5
    have H4 := hid hb4
    go_wp2_with fail
    refine (sameB_any a a4 c c4 n n bs bs true w4 hnn hnn (AB.out w4 hb4) hB4 (by simp)).mono ?_
    rintro e w5 ⟨rfl, hb5⟩
    have h35 := hb4.trans (hb5.mono hb4.size)
    obtain ⟨b0, b1, b2, b3, b4, b5⟩ := BX.out w5 h35
    clear hB4 hb4 hb5
    go_wp2_with fail
    refine (HK w5 h35).mono ?_
    rintro e w6 ⟨rfl, hb6⟩
    have h36 := h35.trans (hb6.mono h35.size)
    clear b0 b1 b2 b3 b4 b5 h35 hb6
    obtain ⟨b0, b1, b2, b3, b4, b5⟩ := BX.out w6 h36
    go_wp2_with fail
    refine (HS w6 h36).mono ?_
    rintro e w7 ⟨rfl, hb7⟩
    have h37 := h36.trans (hb7.mono h36.size)
    clear b0 b1 b2 b3 b4 b5 h36 hb7
    have h17 := hb13.trans (h37.mono hb13.size)
    have hBB := (AB.out w7 h37).belowB (c := c) (by rw [hnn]; exact HC.out)
    have HD := decode_any a c (bs.take (k % n)) w7 (hBB.take _)
    rw [hpre, List.length_take, hnn, Nat.min_eq_left (Nat.le_of_lt hkm)] at HD
    have hm : ((k : Int) % (n : Int)) = ((k % n : Nat) : Int) := by omega
    have hn0 : ¬ ((n : Int) = 0) := by omega
    have hHC := HC.out
    have hkc : k % n ≤ c := by omega
    generalize hkn : k % n = kn at *
    have hm0 : Int.tmod (k : Int) (n : Int) = (kn : Int) := by rw [← hkn]; exact (Int.ofNat_tmod k n).symm ▸ rfl
    have hHD := hid HD
    have hH17 := hid h17
    obtain ⟨ba, bo, rfl⟩ : ∃ b o, a = some ⟨b, o, none⟩ := by
      rcases HB.out.row with h0 | ⟨b, o, h1, _⟩
      · rw [h0] at hnn; simp at hnn; omega
      · exact ⟨b, o, h1⟩
    clear HD h17 hBB h37 HK HS hb13 hb12
    go_upto_region 9 with fail
    go_wp2_with fail
    refine hHD.out.mono ?_
    rintro e w8 ⟨rfl, hb8⟩
    have hr := hH17.out.trans (hb8.mono hH17.out.size)
    go_wp2_with fail
    go_ret
    exact ⟨rfl, Below.alloc1 hr.size hr _⟩
end Go.Proofs.YtgpkfgeflcdbcaaGreat.P
