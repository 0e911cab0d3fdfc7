/- Several texts as one: UQ UR. -/
import Derived.Test.YtekmadgacepdfaaGreatMUO
namespace Go.Proofs.YtekmadgacepdfaaGreat.U
set_option linter.unusedVariables false
open Go.RowKit Fl
set_option linter.unusedSimpArgs false

/-- Who is asked first, second .. -/
def cyc (ms : List Int) (i : Nat) : List Int := (List.range i).map fun j => ms[j % ms.length]?.getD 0
theorem cyc_len (ms : List Int) (i : Nat) : (cyc ms i).length = i := by simp [cyc]
theorem cyc_at (ms : List Int) {i j : Nat} (h : j < i) : (cyc ms i)[j]? = some (ms[j % ms.length]?.getD 0) := by
  unfold cyc
  rw [List.getElem?_map, List.getElem?_range h]; rfl
theorem cyc_snoc (ms : List Int) (i : Nat) : cyc ms (i + 1) = cyc ms i ++ [ms[i % ms.length]?.getD 0] := by
  unfold cyc
  rw [List.range_succ, List.map_append]; rfl
theorem pick_rise (ms : List Int) : ∀ n, (pick ms n).Pairwise (· < ·)
  | 0 => List.Pairwise.nil
  | n + 1 => by
    unfold pick
    split
    · rw [List.pairwise_append]
      exact ⟨pick_rise ms n, List.pairwise_singleton _ _, fun a ha b hb => by
        rw [List.mem_singleton.1 hb]
        have := (pick_mem ms n a ha).2
        omega⟩
    · exact pick_rise ms n
theorem ring_rise (ms : List Int) : (ring ms).Pairwise (· < ·) := by
  unfold ring
  split
  · exact List.pairwise_singleton _ _
  · exact pick_rise ms 7
theorem rise_inj {l : List Int} (h : l.Pairwise (· < ·)) {i j : Nat} (hi : i < l.length) (hj : j < l.length) (he : l[i]?.getD 0 = l[j]?.getD 0) : i = j := by
  rw [List.getElem?_eq_getElem hi, List.getElem?_eq_getElem hj] at he
  simp only [Option.getD_some] at he
  have hp := List.pairwise_iff_getElem.1 h
  rcases Nat.lt_trichotomy i j with hlt | rfl | hlt
  · have := hp i j hi hj hlt; omega
  · rfl
  · have := hp j i hj hi hlt; omega
/-- After how many turns the first one comes again. -/
def RoundIs (l : List Int) (r : Nat) : Prop := (r = 0 ∧ ∀ j, 1 ≤ j → j < l.length → l[j]?.getD 0 ≠ l[0]?.getD 0) ∨ (1 ≤ r ∧ r < l.length ∧ l[r]?.getD 0 = l[0]?.getD 0 ∧ ∀ j, 1 ≤ j → j < r → l[j]?.getD 0 ≠ l[0]?.getD 0)
def roundR (L i : Nat) : Nat := if i ≤ L then 0 else L
theorem round_cyc {ms : List Int} (h : ms.Pairwise (· < ·)) (h0 : 0 < ms.length) (i : Nat) : RoundIs (cyc ms i) (roundR ms.length i) := by
  have at' : ∀ j, j < i → (cyc ms i)[j]?.getD 0 = ms[j % ms.length]?.getD 0 := fun j hj => by rw [cyc_at ms hj]; rfl
  have key : ∀ j, 1 ≤ j → j < ms.length → j < i → (cyc ms i)[j]?.getD 0 ≠ (cyc ms i)[0]?.getD 0 := fun j h1 h2 h3 he => by
    rw [at' j h3, at' 0 (by omega), Nat.mod_eq_of_lt h2, Nat.zero_mod] at he
    have := rise_inj h h2 h0 he
    omega
  unfold roundR
  by_cases hi : i ≤ ms.length
  · rw [if_pos hi]
    exact .inl ⟨rfl, fun j h1 h2 => key j h1 (by rw [cyc_len] at h2; omega) (by rw [cyc_len] at h2; omega)⟩
  · rw [if_neg hi]
    refine .inr ⟨by omega, by rw [cyc_len]; omega, ?_, fun j h1 h2 => key j h1 h2 (by omega)⟩
    rw [at' _ (by omega), at' 0 (by omega), Nat.mod_self, Nat.zero_mod]
set_option maxRecDepth 100000 in
theorem round_any (a : Option Addr) (c n : Nat) (l : List Int) (r : Nat) (w : World) (hn : l.length = n) (h : ZAt w a l) (hr : RoundIs l r) :
    Calls Tryz.prog 24 #[.slice a n c] w (Ret (.int .i64 (r : Nat)) w) := by
  have HN := hid hn
  have hm := h.len
  rw [hn] at hm
  unfold maxLen at hm
  have HR := hid hr
  rcases h.row with h0 | ⟨b, o, rfl, hb, hc⟩
  · have h00 : n = 0 := by rw [← hn, h0]; rfl
    subst h00
    have hr0 : r = 0 := by
      rcases hr with ⟨h1, _⟩ | ⟨_, h2, _⟩
      · exact h1
      · omega
    subst hr0
    clear h hr HR h0 hn
    go_enter Tryz.func24, Tryz.ntmps24
    go_upto_region 2 with fail
    go_loop [3] (fun t3 => t3 = .int .i64 1) (fun _ => 0)
    case atStart => rfl
    case round =>
      subst hrel
      go_wp2
      go_ret
      exact ⟨rfl, by (repeat (first | with_reducible exact Below.refl _ _ | ((with_reducible refine Below.alloc1 ?_ ?_ _); (· first | omega | (simp; done) | (simp; omega))) | (with_reducible refine Below.drew ?_) | (with_reducible refine below_drewN' ?_ _) | ((with_reducible refine Below.setCell1 ?_ ?_ _); (· first | omega | (simp; done) | (simp; omega))) | ((with_reducible refine Below.after (by assumption) ?_ ?_); (· first | omega | (simp; done) | (simp; omega)))))⟩
  · have HC := hid hc
    clear h hr hc hn
    go_enter Tryz.func24, Tryz.ntmps24
    go_upto_region 2 with fail
    go_loopw [3] (fun t3 wr => ∃ k : Nat, t3 = .int .i64 (k : Nat) ∧ 1 ≤ k ∧ k ≤ max n 1 ∧ (r = 0 ∨ k ≤ r) ∧ Below w.heap.size w wr) (fun t3 _ => n - (intOf t3).toNat)
    case atStart => exact ⟨1, rfl, Nat.le_refl _, by omega, by rcases HR.out with h | h; exact .inl h.1; exact .inr h.1, Below.refl _ _⟩
    case round =>
      obtain ⟨k, rfl, h1, hkn, hkr, hbw⟩ := hrel
      by_cases hlt : k < n
      · have hlt' : (k : Int) < (n : Int) := by omega
        have hlt0 : 0 < (n : Int) := by omega
        have c1 := (hbw.cell (p := ⟨b, o + k, none⟩) hb).trans (HC.out k (by rw [HN.out]; exact hlt))
        have c0 := (hbw.cell (p := ⟨b, o + 0, none⟩) hb).trans (HC.out 0 (by rw [HN.out]; omega))
        rw [Nat.add_zero] at c0
        have hbl : b < wr.heap.size := Nat.lt_of_lt_of_le hb hbw.size
        by_cases he : k = r
        · subst he
          have hee : l[k]?.getD 0 = l[0]?.getD 0 := by
            rcases HR.out with h | h
            · omega
            · exact h.2.2.1
          rw [hee] at c1
          clear hee
          generalize l[0]?.getD 0 = v at *
          go_wp2
          go_quiet (fail)
          go_wp2
          go_ret
          exact ⟨rfl, below_drewN' hbw _⟩
        · have hne : l[k]?.getD 0 ≠ l[0]?.getD 0 := by
            rcases HR.out with h | h
            · exact h.2 k h1 (by rw [HN.out]; exact hlt)
            · exact h.2.2.2 k h1 (by omega)
          generalize l[0]?.getD 0 = v at *
          generalize l[k]?.getD 0 = u at *
          have hb1 : (u == v) = false := by simpa using hne
          go_wp2
          go_quiet (fail)
          go_wp2
          go_roundw
          case rel => exact ⟨k + 1, by go_num, by omega, by omega, by omega, below_drewN' hbw _⟩
          case measure => simp [intOf]; omega
      · have hr0 : r = 0 := by
          rcases HR.out with h | h
          · exact h.1
          · have := h.2.1
            rw [HN.out] at this
            omega
        subst hr0
        have hge : ¬ (k : Int) < (n : Int) := by omega
        go_wp2
        go_ret
        exact ⟨rfl, hbw⟩
end Go.Proofs.YtekmadgacepdfaaGreat.U
namespace Go.Proofs.YtekmadgacepdfaaGreat.U
set_option linter.unusedVariables false
open Go.RowKit Fl
open Go.Proofs.YtekmadgacepdfaaGreat.P (encO SameD)
open Go.Proofs.YtekmadgacepdfaaGreat.K (canC Fits)
set_option linter.unusedSimpArgs false

def dT (M : List Int) (E : List Nat) (t : Nat) : CD := ⟨1, 1, M, t, [(1, E)], []⟩
theorem heard50 (M : List Int) (E : List Nat) (t : Nat) : heardD (dT M E t) 1 0 0 50 0 = dT M E ((t + 1) % M.length) := by
  unfold heardD
  rw [if_neg (by simp [dT]), if_neg (by decide), if_neg (by rintro ⟨h, _⟩; omega), if_neg (by decide)]
  rfl
theorem heard180 (M : List Int) (E : List Nat) (t : Nat) (lead : Int) : ∃ t', heardD (dT M E t) 1 0 0 180 lead = dT M E t' ∧ (lead ∈ M → M[t']?.getD 0 = lead) := by
  unfold heardD
  rw [if_neg (by simp [dT]), if_neg (by decide)]
  by_cases h : (180 : Int) = 180 ∧ ((dT M E t).ms.any fun x => decide (lead = x)) = true
  · rw [if_pos h]
    refine ⟨_, rfl, fun hm => ?_⟩
    have hany : (M.any fun x => decide (lead = x)) = true := h.2
    show M[(idxB (fun x => decide (lead = x)) M).toNat]?.getD 0 = lead
    unfold idxB
    cases hf : M.findIdx? (fun x => decide (lead = x)) with
    | none =>
      exfalso
      rw [List.findIdx?_eq_none_iff] at hf
      have := hf lead hm
      simp at this
    | some k =>
      obtain ⟨hk, hp, _⟩ := List.findIdx?_eq_some_iff_getElem.1 hf
      show M[((k : Nat) : Int).toNat]?.getD 0 = lead
      rw [Int.toNat_natCast, List.getElem?_eq_getElem hk, Option.getD_some]
      simpa using (of_decide_eq_true hp).symm
  · rw [if_neg h, if_neg (by decide)]
    refine ⟨_, rfl, fun hm => absurd ⟨rfl, ?_⟩ h⟩
    show (M.any fun x => decide (lead = x)) = true
    rw [List.any_eq_true]
    exact ⟨lead, hm, by simp⟩
theorem pick_has (ms : List Int) (m : Int) : ∀ n : Nat, 1 ≤ m → m ≤ n → m ∈ ms → m ∈ pick ms n
  | 0, h1, h2, _ => by omega
  | n + 1, h1, h2, h => by
    unfold pick
    by_cases he : m = (n : Int) + 1
    · rw [if_pos (by rw [List.any_eq_true]; exact ⟨m, h, by simp [he]⟩)]
      exact List.mem_append_right _ (by rw [he]; exact List.mem_singleton_self _)
    · have := pick_has ms m n h1 (by omega) h
      split
      · exact List.mem_append_left _ this
      · exact this
theorem ring_has {ms : List Int} {m : Int} (h1 : 1 ≤ m) (h7 : m ≤ 7) (h : m ∈ ms) : m ∈ ring ms := by
  have := pick_has ms m 7 h1 h7 h
  unfold ring
  rw [if_neg (fun h0 => by rw [h0] at this; cases this)]
  exact this
/-- The ring's row has grown. -/
theorem CAt.ring_app {B p BW n cc : Nat} {c : CL} {w w' : World} {a : Option Addr} {cs : List Value} (h : CAt B p c w) (hr : w.ownsRow BW 3 1 (.slice a n cc) n cs) (hm : ∀ g, c.ma = some g → g.block < BW) (hg : w.grownBy w' (Value.slice a n cc).ownBlock) : CAt B p c w' := by
  have hne : ∀ (q : Nat) (o : Obj), w.heap[q]? = some o → (∀ cur, o ≠ Obj.cells cur 3 (0, 0)) → w'.heap[q]? = w.heap[q]? := fun q o hq ho => hg.block q (Array.getElem?_eq_some_iff.1 hq).1 fun he => by
    obtain ⟨cur, hb⟩ := own_blk hr he.symm
    rw [hq] at hb
    exact ho cur (Option.some.inj hb)
  have hty : ∀ (T : TypeId), T ≠ 3 → ∀ cur fr cur', Obj.cells cur T fr ≠ Obj.cells cur' 3 (0, 0) := fun T hT cur fr cur' he => by
    simp only [Obj.cells.injEq] at he
    exact hT he.2.1
  refine ⟨(hne p _ h.box (hty _ (by decide) _ _)).trans h.box, h.hp, ?_, ?_, h.hm, fun o ho => own_stay (h.item o ho) fun g cur _ hc => hne g _ hc (hty _ (by decide) _ _), h.byte, h.rise, h.num, h.last, own_stay h.res fun g cur _ hc => hne g _ hc (hty _ (by decide) _ _), h.many, h.tgt, h.ring, h.ses⟩
  · refine own_stay h.mem fun g cur hv hc => hg.block g (Array.getElem?_eq_some_iff.1 hc).1 fun he => ?_
    have h1 := (hr.lt g he.symm).1
    cases hma : c.ma with
    | none => rw [hma] at hv; cases hv
    | some q =>
      have h2 := hm q hma
      rw [hma] at hv
      cases hv
      omega
  · obtain ⟨es, clock, hb, _⟩ := h.map
    exact map_stay h.map (hne _ _ hb fun cur he => by cases he)
theorem and31 (n : Int) : ∃ k : Nat, bits BinOp.and IntKind.i64 n 31 = (k : Int) ∧ k < 32 := by
  have hx : ((BitVec.ofInt 64 n &&& BitVec.ofInt 64 31).toNat) < 32 := by
    rw [BitVec.toNat_and, show (BitVec.ofInt 64 31).toNat = 31 from rfl]
    exact Nat.lt_succ_of_le Nat.and_le_right
  refine ⟨(BitVec.ofInt 64 n &&& BitVec.ofInt 64 31).toNat, ?_, hx⟩
  show IntKind.i64.wrap ((BitVec.ofInt 64 n &&& BitVec.ofInt 64 31).toNat : Int) = _
  generalize (BitVec.ofInt 64 n &&& BitVec.ofInt 64 31).toNat = k at *
  simp [IntKind.wrap, IntKind.bits, IntKind.signed]
  omega
def lone2 (B f : Nat) : SubV := ⟨0, 0, 0, some ⟨B, 0, none⟩, 1, [f], none, 0, [], none, 0, []⟩
theorem lone2_at {w : World} {f : Nat} (hf : f < 2 ^ 64) : (lone2 w.heap.size f).At (w.alloc (.cells #[.float .f64 f] 64)) :=
  ⟨(lone1_at hf).w, ⟨.inl rfl, fun i hi => absurd hi (Nat.not_lt_zero _), Nat.zero_le _⟩, ⟨.inl rfl, fun i hi => absurd hi (Nat.not_lt_zero _), Nat.zero_le _⟩⟩
theorem lone2_fits (B f : Nat) : Fits (lone2 B f) := ⟨by simp [lone2], by simp [lone2], by simp [lone2]⟩
theorem next_one {B p : Nat} {c : CL} {M : List Int} {E : List Nat} {t : Nat} {w : World} (h : CAt B p c w) (hd : c.d = dT M E t) :
    Calls Tryz.prog 19 #[.pointer (some ⟨p, 0, none⟩)] w fun e w' => Below w.heap.size w w' ∧ ∃ a cc, e = .returned (.tuple #[.int .i64 (M[t]?.getD 0), .slice a E.length cc, .bool true]) := by
  have hos : c.os.map (fun o => (o.seq, o.bs)) = [(1, E)] := congrArg CD.os hd
  obtain ⟨o, h1, h2⟩ := List.map_eq_singleton_iff.1 hos
  have hE : o.bs = E := congrArg Prod.snd h2
  have htg : c.target = M[t]?.getD 0 := by
    have h1 : c.ms = M := congrArg CD.ms hd
    have h2 : c.t = t := congrArg CD.t hd
    unfold CL.target
    rw [h1, h2]
  have HN := next_any' B p c w h
  unfold NextRet at HN
  rw [h1] at HN
  simp only [htg, hE] at HN
  exact HN.mono fun e w' ⟨hb, a, cc, he, _⟩ => ⟨hb, a, cc, he⟩
theorem target_d {B p : Nat} {c : CL} {M : List Int} {E : List Nat} {t : Nat} {w : World} (h : CAt B p c w) (hd : c.d = dT M E t) :
    Calls Tryz.prog 21 #[.pointer (some ⟨p, 0, none⟩)] w (Ret (.int .i64 (M[t]?.getD 0)) w) := by
  have htg : c.target = M[t]?.getD 0 := by
    have h1 : c.ms = M := congrArg CD.ms hd
    have h2 : c.t = t := congrArg CD.t hd
    unfold CL.target
    rw [h1, h2]
  rw [← htg]
  exact target_any B p c w h
set_option maxHeartbeats 1000000 in
set_option maxRecDepth 100000 in
theorem clientTurns_walk (a : Option Addr) (c0 : Nat) (ms : List Int) (n lead : Int) (w : World) (h : ZAt w a ms) (hn : -9223372036854775808 ≤ n ∧ n ≤ 9223372036854775807) (hlead : -9223372036854775808 ≤ lead ∧ lead ≤ 9223372036854775807) :
    Calls Tryz.prog 5 #[.slice a ms.length c0, .int .i64 n, .int .i64 lead] w (Ret (.bool true) w) := by
  have HM := hid h
  have hmlen := h.len
  unfold maxLen at hmlen
  obtain ⟨nk, hnk, hnk32⟩ := and31 n
  obtain ⟨hL0, hL7, hM7⟩ := ring_ok ms
  have HRI := hid (ring_rise ms)
  have HHAS := hid (fun (m : Int) h1 h7 (h : m ∈ ms) => ring_has (ms := ms) (m := m) h1 h7 h)
  clear h hn
  have HN := hid (fun W (hb : Below w.heap.size w W) => new_any 1 a c0 _ ms W rfl (HM.out.below hb) ⟨by omega, by omega⟩)
  unfold newD at HN
  generalize ring ms = M at *
  have HM7 := hid hM7
  clear hM7
  generalize hml : ms.length = mlen at *
  have HML := hid hml
  clear hml
  go_enter Tryz.func5, Tryz.ntmps5
  go_wp2_with fail
  refine (HN.out w (Below.refl _ _)).mono ?_
  rintro e w1 ⟨hb1, p, c, rfl, hC, hd⟩
  have HC := hid hC; have HD := hid hd
  have hsz := hb1.size
  clear hC hd HN
  go_upto_region 5 with (go_at_call 13; (with_reducible refine (alive21_any _).mono ?_); rintro e w2 ⟨rfl, hb2⟩; obtain ⟨hc2, hf2⟩ := bcell hb2; (try simp only [World.heap_drewN, World.cell?_drewN, World.frozen?_drewN] at hc2 hf2); have hz2 := hb2.size; (try simp at hz2); (try have hy2_0 : w.heap.size < w2.heap.size := by omega); (try have hy2_1 : w.heap.size + 1 < w2.heap.size := by omega); (try have hy2_2 : w.heap.size + 2 < w2.heap.size := by omega); (try have hy2_3 : w.heap.size + 3 < w2.heap.size := by omega); (try have hx2_0 : w.heap.size ≤ w2.heap.size := by omega); (try have hx2_1 : w.heap.size + 1 ≤ w2.heap.size := by omega); (try have hx2_2 : w.heap.size + 2 ≤ w2.heap.size := by omega))
  try rw [hnk]
  clear hnk hc2 hf2
  have hb02 : Below w.heap.size w w2 := hb1.trans (hb2.mono hsz)
  have HC2 := hid (HC.out.below hb2)
  clear hb1 hb2 HC hsz
  go_wp2_with fail
  have hB3 : Below w2.heap.size w2 (w2.alloc (.cells #[.float .f64 4607182418800017408] 64)) := Below.alloc1 (Nat.le_refl _) (Below.refl _ _) _
  refine (add_any w.heap.size p c (lone2 w2.heap.size 4607182418800017408) _ (HC2.out.below hB3) (lone2_at (by omega)) (lone2_fits _ _)).mono ?_
  rw [HD.out]
  have e1 : canC (subD ⟨1, 0, M, 0, [], []⟩ (lone2 w2.heap.size 4607182418800017408)) = 0 := (canC_same ⟨rfl, rfl, rfl, rfl, rfl, rfl⟩).trans lit_can3
  have hpos := bytesU_pos e1
  have e2 : addD ⟨1, 0, M, 0, [], []⟩ (lone2 w2.heap.size 4607182418800017408) = (dT M (bytesU (subD ⟨1, 0, M, 0, [], []⟩ (lone2 w2.heap.size 4607182418800017408))) 0, 1, 0) := by
    unfold addD
    have hf : fullD ⟨1, 0, M, 0, [], []⟩ = false := rfl
    rw [if_neg (by rw [hf]; decide), if_pos e1]; rfl
  rw [e2]
  rintro e w3 ⟨rfl, ⟨hb3, _⟩, c3, hC3, hd3, _⟩
  generalize bytesU (subD ⟨1, 0, M, 0, [], []⟩ (lone2 w2.heap.size 4607182418800017408)) = E at *
  have h03 : Below w.heap.size w w3 := (hb02.trans (hB3.mono hb02.size)).trans hb3
  have HC3 := hid hC3; have HD3 := hid hd3
  clear e1 e2 hB3 hb3 hC3 hd3 HC2 HD hb02
  go_upto_region 10 with fail
  have hown4 : (w3.alloc (.cells #[] 3)).ownsRow w3.heap.size 3 1 (.slice (some ⟨w3.heap.size, 0, none⟩) 0 0) 0 (zCells (cyc M 0)) := World.ownsRow_made w3 #[] 0 (Nat.le_refl _) (by unfold maxLen; omega) rfl
  have hb4 : Below w3.heap.size w3 (w3.alloc (.cells #[] 3)) := Below.alloc1 (Nat.le_refl _) (Below.refl _ _) _
  have HO4 := hid hown4
  have HC4 := hid (HC3.out.below hb4)
  have h04 := h03.trans (hb4.mono h03.size)
  have hz34 : w3.heap.size ≤ (w3.alloc (.cells #[] 3)).heap.size := hb4.size
  have HMA : Hid (∀ g, c3.ma = some g → g.block < w3.heap.size) := hid fun g hg => by
    have := HC3.out.mem.lt g.block (by rw [hg]; rfl)
    exact this.2
  have HP := hid hpos
  have hz03 := h03.size
  clear hown4 hb4 HC3 h03
  generalize w3.alloc (.cells #[] 3) = w4 at *
  go_loopw [10, 11] (fun t10 t11 wr => ∃ (i : Nat) (a' : Option Addr) (cc : Nat) (cl : CL), t11 = .int .i64 (i : Nat) ∧ t10 = .slice a' i cc ∧ i ≤ nk ∧ Hid (wr.ownsRow w3.heap.size 3 1 (.slice a' i cc) i (zCells (cyc M i))) ∧ Hid (CAt w.heap.size p cl wr) ∧ Hid (cl.d = dT M E (i % M.length)) ∧ Hid (cl.ma = c3.ma) ∧ Below w.heap.size w wr ∧ w3.heap.size ≤ wr.heap.size) (fun _ t11 _ => nk - (intOf t11).toNat)
  case atStart => exact ⟨0, _, _, c3, rfl, rfl, Nat.zero_le _, HO4, HC4, hid (by rw [HD3.out, Nat.zero_mod]), hid rfl, h04, hz34⟩
  case round =>
    obtain ⟨i, a', cc, cl, rfl, rfl, hi, HOW, HCL, HDL, HML', hbw, hzw⟩ := hrel
    by_cases hlt : i < nk
    · have hlt' : (i : Int) < (nk : Int) := by omega
      have HNX := hid (next_one HCL.out HDL.out)
      have hto := HM7.out (M[i % M.length]?.getD 0) (by
        have hm := Nat.mod_lt i hL0
        rw [List.getElem?_eq_getElem hm]
        exact List.getElem_mem hm)
      obtain ⟨tg, hto0⟩ : ∃ tg, tg = M[i % M.length]?.getD 0 := ⟨_, rfl⟩
      rw [← hto0] at hto HNX
      obtain ⟨hto1, hto7⟩ := hto
      have HTO := hid hto0
      have hE0 : 0 < (E.length : Int) := by have := HP.out; omega
      clear hto0
      go_upto_region 12 with fail
      go_wp2_with fail
      refine HNX.out.mono ?_
      rintro e X ⟨hbX, aX, cX, rfl⟩
      have HROW := hid (own_stay HOW.out fun g cur _ hc => hbX.block g (Array.getElem?_eq_some_iff.1 hc).1)
      have HCX := hid (HCL.out.below hbX)
      have hbwX := hbw.trans (hbX.mono hbw.size)
      have hzX : w3.heap.size ≤ X.heap.size := Nat.le_trans hzw hbX.size
      clear HNX hbX hbw hzw HCL
      generalize E.length = mE at *
      have hE1 : ¬ (mE : Int) = 0 := by omega
      have ht1 : ¬ tg < 1 := by omega
      have ht7 : ¬ 7 < tg := by omega
      clear hto1 hto7
      go_upto_region 16 with fail
      · rename_i hx
        exfalso
        rcases hx with (hx | hx) | hx
        · simp at hx; omega
        · omega
        · omega
      rename (((mE : Int) == 0) = false ∧ 1 ≤ tg) ∧ tg ≤ 7 => hway
      clear hway hE1 hE0 ht1 ht7
      have hcase : ∀ k, k < i → M[k % M.length]?.getD 0 = tg → (i - k) % (max (roundR M.length i) 1) = 0 := fun k hk he => by
        rw [HTO.out] at he
        have := rise_inj HRI.out (Nat.mod_lt _ hL0) (Nat.mod_lt _ hL0) he
        unfold roundR
        split
        · simp [Nat.mod_one]
        · rw [Nat.max_eq_left (by omega)]
          have h1 := Nat.div_add_mod i M.length
          have h2 := Nat.div_add_mod k M.length
          have h3 : i - k = M.length * (i / M.length - k / M.length) := by
            rw [Nat.mul_sub]; omega
          rw [h3, Nat.mul_mod_right]
      have HCASE := hid hcase
      have HRR := hid (round_cyc HRI.out hL0 i)
      have hRR : roundR M.length i ≤ 7 := by unfold roundR; split <;> omega
      clear hcase
      generalize roundR M.length i = rr at *
      go_loopw [15] (fun t15 wr => ∃ k : Nat, t15 = .int .i64 (k : Nat) ∧ k ≤ i ∧ Below X.heap.size X wr) (fun t15 _ => i - (intOf t15).toNat)
      case atStart => exact ⟨0, rfl, Nat.zero_le _, Below.refl _ _⟩
      case round =>
        obtain ⟨k, rfl, hk, hb5⟩ := hrel
        by_cases hki : k < i
        · have hki' : (k : Int) < (i : Int) := by omega
          have hrow := HROW.out
          rcases hrow.2 with ⟨_, h2⟩ | ⟨g, cap, cur, h1, _⟩
          · omega
          injection h1 with ha _ hcap
          subst ha
          subst hcap
          have kc := hrow.cells (g := g) rfl k (.int .i64 (M[k % M.length]?.getD 0)) (by unfold zCells; rw [List.getElem?_map, cyc_at M hki]; rfl)
          rw [K.addr0] at kc
          have hgl := (hrow.lt g rfl).2
          have kc2 := (hb5.cell (p := ⟨g, k, none⟩) hgl).trans kc
          have HRC := hid (fun W (hb : Below X.heap.size X W) => round_any (some ⟨g, 0, none⟩) cc i (cyc M i) rr W (cyc_len M i) ((own_zat (cyc_len M i) hrow (by unfold maxLen; omega)).below hb) HRR.out)
          have HCA := hid (HCASE.out k hki)
          clear hrow kc hgl
          generalize M[k % M.length]?.getD 0 = v at *
          by_cases hv : v = tg
          · have hvb : (v == tg) = true := by simpa using hv
            have hmod := HCA.out hv
            clear hv
            have hmz : ((i : Int) - (k : Int)) % max (rr : Int) 1 = 0 := by
              have e1 : (i : Int) - (k : Int) = ((i - k : Nat) : Int) := by omega
              have e2 : max (rr : Int) 1 = ((max rr 1 : Nat) : Int) := by omega
              rw [e1, e2, ← Int.natCast_emod, hmod]; rfl
            have hmb : ((((i : Int) - (k : Int)) % max (rr : Int) 1) != 0) = false := by rw [hmz]; rfl
            clear hmod hmz
            go_wp2_with fail
            refine (HRC.out wr hb5).mono ?_
            rintro e V ⟨rfl, hbV⟩
            have hbXV := hb5.trans (hbV.mono hb5.size)
            clear HRC kc2 HCA
            go_wp2_with fail
            go_roundw
            case rel => exact ⟨k + 1, by go_num, by omega, hbXV⟩
            case measure => simp [intOf]; omega
          · have hvb : (v == tg) = false := by simpa using hv
            go_wp2_with fail
            go_roundw
            case rel => exact ⟨k + 1, by go_num, by omega, hb5⟩
            case measure => simp [intOf]; omega
        · obtain rfl : k = i := by omega
          have hge : ¬ (k : Int) < (k : Int) := by omega
          have hrow5 := own_stay HROW.out fun g cur _ hc => hb5.block g (Array.getElem?_eq_some_iff.1 hc).1
          have hz5 := hb5.size
          obtain ⟨a2, c2, w6, hr6, hown6, hb6, hg6⟩ := appZ tg (cyc_len M k) hrow5 (by omega) (by omega)
          have hC6 := (HCX.out.below hb5).ring_app hrow5 (fun g hg => HMA.out g (HML'.out ▸ hg)) hg6
          have hrow6 : w6.ownsRow w3.heap.size 3 1 (.slice a2 (k + 1) c2) (k + 1) (zCells (cyc M (k + 1))) := by
            rw [cyc_snoc, ← HTO.out]; exact hown6
          have hbw6 := (hbwX.trans (hb5.mono hbwX.size)).trans (hb6.mono hz03)
          have HR6 := hid hrow6; have HC6 := hid hC6; have HB6 := hid hbw6
          have hz6 := hb6.size
          clear hrow5 hown6 hb6 hg6 hC6 hrow6 hbw6 hbwX hb5 HROW HCASE HRR
          go_wp2_with (at_builtin; refine Lib.wpList_append_run _ rfl _ _ _ _ rfl _ _ rfl rfl _ _ (hr6 _) ?_)
          have HH := heard_any w.heap.size p cl 1 0 0 50 0 w6 HC6.out ⟨by omega, by omega⟩
          rw [HDL.out, heard50] at HH
          refine HH.mono ?_
          rintro e w7 ⟨rfl, ⟨hb7, hfr7⟩, cl7, hC7, hd7, hma7⟩
          have HR7 := hid (own_stay HR6.out fun g cur _ hc => (hfr7 g _ hc ⟨by decide, by decide⟩).trans hc.symm)
          have HC7 := hid hC7
          have HD7 : Hid (cl7.d = dT M E ((k + 1) % M.length)) := hid (by rw [hd7, Nat.mod_add_mod])
          have HM7' : Hid (cl7.ma = c3.ma) := hid (hma7.trans HML'.out)
          have hbw7 := HB6.out.trans hb7
          have hz7 := hb7.size
          clear HH hfr7 hC7 hd7 hma7 hb7
          go_wp2_with fail
          go_roundw
          case rel => exact ⟨k + 1, a2, c2, cl7, by go_num, rfl, by omega, HR7, HC7, HD7, HM7', hbw7, by omega⟩
          case measure => simp [intOf]; omega
    · obtain rfl : i = nk := by omega
      have hge : ¬ (i : Int) < (i : Int) := by omega
      obtain ⟨t', ht', hlead'⟩ := heard180 M E (i % M.length) lead
      have HH := hid (heard_any w.heap.size p cl 1 0 0 180 lead wr HCL.out ⟨by omega, by omega⟩)
      rw [HDL.out, ht'] at HH
      have HLD := hid hlead'
      clear ht' hlead' HOW
      go_wp2_with fail
      refine HH.out.mono ?_
      rintro e w7 ⟨rfl, ⟨hb7, _⟩, cl7, hC7, hd7, _⟩
      have HC7 := hid hC7; have HD7 := hid hd7
      have hbw7 := hbw.trans hb7
      have HZ7 := hid fun W (hb : Below w7.heap.size w7 W) => HM.out.below (hbw7.trans (hb.mono hbw7.size))
      clear HH hC7 hd7 hb7 hbw
      go_upto_region 25 with fail
      go_loopw [16, 104] (fun t16 t104 wr2 => ∃ (j : Nat) (b : Bool), t16 = .bool b ∧ t104 = .int .i64 (j : Nat) ∧ j ≤ mlen ∧ Hid (b = true → lead ∈ ms ∧ 1 ≤ lead ∧ lead ≤ 7) ∧ Below w7.heap.size w7 wr2) (fun _ t104 _ => mlen - (intOf t104).toNat)
      case atStart => exact ⟨0, false, rfl, rfl, Nat.zero_le _, hid (fun h => by cases h), Below.refl _ _⟩
      case round =>
        obtain ⟨j, b, rfl, rfl, hj, HBB, hb8⟩ := hrel
        by_cases hjl : j < mlen
        · have hjl' : (j : Int) < (mlen : Int) := by omega
          have hjm : j < ms.length := by rw [HML.out]; exact hjl
          rcases (HZ7.out wr hb8).row with h0 | ⟨gb, o, ha, hbl, hcl⟩
          · rw [h0] at hjm; simp at hjm
          subst ha
          have k0 := hcl j hjm
          have hmem : ms[j]?.getD 0 ∈ ms := by rw [List.getElem?_eq_getElem hjm]; exact List.getElem_mem hjm
          have HMEM := hid hmem
          clear hcl hmem
          generalize ms[j]?.getD 0 = m at *
          cases b with
          | true =>
            go_wp2_with fail
            go_roundw
            case rel => exact ⟨j + 1, true, rfl, by go_num, by omega, HBB, hb8⟩
            case measure => simp [intOf]; omega
          | false =>
            by_cases hml2 : m = lead
            · subst hml2
              by_cases h1 : 1 ≤ m
              · by_cases h7 : m ≤ 7
                · go_wp2_with fail
                  go_roundw
                  case rel => exact ⟨j + 1, true, rfl, by go_num, by omega, hid (fun _ => ⟨HMEM.out, h1, h7⟩), hb8⟩
                  case measure => simp [intOf]; omega
                · go_wp2_with fail
                  go_roundw
                  case rel => exact ⟨j + 1, false, rfl, by go_num, by omega, hid (fun h => by cases h), hb8⟩
                  case measure => simp [intOf]; omega
              · go_wp2_with fail
                go_roundw
                case rel => exact ⟨j + 1, false, rfl, by go_num, by omega, hid (fun h => by cases h), hb8⟩
                case measure => simp [intOf]; omega
            · have hmb : (m == lead) = false := by simpa using hml2
              go_wp2_with fail
              go_roundw
              case rel => exact ⟨j + 1, false, rfl, by go_num, by omega, hid (fun h => by cases h), hb8⟩
              case measure => simp [intOf]; omega
        · obtain rfl : j = mlen := by omega
          have hge2 : ¬ (j : Int) < (j : Int) := by omega
          have HTG := hid fun W (hb : Below w7.heap.size w7 W) => target_d (HC7.out.below hb) HD7.out
          have hrs : cl7.rs = [] := congrArg CD.rs HD7.out
          have HRS := hid fun W (hb : Below w7.heap.size w7 W) => results_any w.heap.size p cl7 W (HC7.out.below hb)
          rw [hrs] at HRS
          clear hrs
          cases b with
          | true =>
            obtain ⟨hl1, hl2, hl3⟩ := HBB.out rfl
            have htl := HLD.out (HHAS.out lead hl2 hl3 hl1)
            rw [htl] at HTG
            clear hl1 hl2 hl3 htl
            go_wp2_with fail
            refine (HTG.out wr hb8).mono ?_
            rintro e V ⟨rfl, hbV⟩
            have h7V := hb8.trans (hbV.mono hb8.size)
            go_wp2_with fail
            refine (HRS.out V h7V).mono ?_
            rintro e V2 ⟨a9, c9, rfl, _, hbV2⟩
            have hfin := hbw7.trans ((h7V.trans (hbV2.mono h7V.size)).mono hbw7.size)
            go_wp2_with fail
            go_ret
            exact ⟨rfl, hfin⟩
          | false =>
            go_wp2_with fail
            refine (HRS.out wr hb8).mono ?_
            rintro e V2 ⟨a9, c9, rfl, _, hbV2⟩
            have hfin := hbw7.trans ((hb8.trans (hbV2.mono hb8.size)).mono hbw7.size)
            go_wp2_with fail
            go_ret
            exact ⟨rfl, hfin⟩
end Go.Proofs.YtekmadgacepdfaaGreat.U
