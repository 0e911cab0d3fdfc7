/- Canon and the document's Canon, over submissions. -/
import Derived.Test.YtgpkfgeflcdbcaaGreatKI
namespace Go.Proofs.YtgpkfgeflcdbcaaGreat.K
set_option linter.unusedVariables false
open Go.RowKit Fl

theorem fsort_bits {l : List CB} (h : strictC l) : fsort (bits l) = l := by
  refine strict_ext (fsort_strict _) h fun x => ?_
  rw [fsort_mem]
  constructor
  · rintro ⟨b, hb, rfl⟩
    obtain ⟨y, hy, rfl⟩ := List.mem_map.1 hb
    rw [cb_self]; exact hy
  · intro hx
    exact ⟨x.b, List.mem_map.2 ⟨x, hx, rfl⟩, cb_self x⟩
theorem ordF_out (xs : List Nat) : ordF (bits (fsort xs)) = true := by
  unfold ordF
  rw [fsort_bits (fsort_strict xs), decide_eq_true_eq]
theorem norm_twice' (l : List RK) : refAllN [] (N.forms ((refAllN [] l).map N.RK.raw)) = refAllN [] l := by
  rw [N.raw_forms]
  obtain ⟨h1, h2⟩ := refAllN_spec l [] List.Pairwise.nil
  obtain ⟨h3, h4⟩ := refAllN_spec (refAllN [] l) [] List.Pairwise.nil
  refine gapped_ext h3 h1 fun v => ?_
  rw [h4]
  exact ⟨fun h => h.resolve_left (covL_nil v), .inr⟩
theorem ordS_out (ss : List SpanV) : ordS ((refAllN [] (N.forms ss)).map N.RK.raw) = true := by
  unfold ordS
  rw [norm_twice', decide_eq_true_eq]
theorem hasE_out (G : List RK) : hasE (G.map N.RK.raw) = false := by
  unfold hasE
  rw [List.any_eq_false]
  intro s hs
  obtain ⟨k, _, rfl⟩ := List.mem_map.1 hs
  rw [N.raw_rg]; simp
/-- What Check says of Canon's result. -/
def outChk (x : SubV) : Int :=
  checkI (SubV.nb x) (decide (16 < (bits (fsort x.rs)).length) || decide (8 < (refAllN [] (N.forms x.ss)).length) || decide (16 < (bits (fsort x.ws)).length)) ((bits (fsort x.rs)).any isNaN) ((bits (fsort x.ws)).any isNaN) false true true true
theorem outChk_is (x : SubV) : outChk x = 43 ∨ outChk x = 3 ∨ outChk x = 40 ∨ outChk x = 0 := by
  unfold outChk
  generalize SubV.nb x = a
  generalize (decide (16 < (bits (fsort x.rs)).length) || decide (8 < (refAllN [] (N.forms x.ss)).length) || decide (16 < (bits (fsort x.ws)).length)) = b
  generalize (bits (fsort x.rs)).any isNaN = c
  generalize (bits (fsort x.ws)).any isNaN = d
  cases a <;> cases b <;> cases c <;> cases d <;> decide
/-- Canon's result as it lies. -/
def outV (x : SubV) (a1 a2 a3 : Option Addr) (d1 d2 d3 : Nat) : SubV := ⟨x.s0, x.s1, x.s2, a1, d1, bits (fsort x.rs), a2, d2, (refAllN [] (N.forms x.ss)).map N.RK.raw, a3, d3, bits (fsort x.ws)⟩
theorem check_out (x : SubV) (a1 a2 a3 : Option Addr) (d1 d2 d3 : Nat) : SubV.check (outV x a1 a2 a3 d1 d2 d3) = outChk x := by
  unfold SubV.check outChk
  have e1 : ordF (outV x a1 a2 a3 d1 d2 d3).rs = true := ordF_out x.rs
  have e2 : ordF (outV x a1 a2 a3 d1 d2 d3).ws = true := ordF_out x.ws
  have e3 : ordS (outV x a1 a2 a3 d1 d2 d3).ss = true := ordS_out x.ss
  have e4 : hasE (outV x a1 a2 a3 d1 d2 d3).ss = false := hasE_out _
  rw [e1, e2, e3, e4]
  unfold SubV.mb outV
  simp only [List.length_map]
  rfl
def canC (x : SubV) : Int := canI (x.ss.any wrongS) (outChk x)
/-- No row is greater than memory. -/
def Fits (x : SubV) : Prop := x.rs.length ≤ 17592186044410 ∧ x.ss.length ≤ 5864062014634 ∧ x.ws.length ≤ 17592186044410
theorem out_at {x : SubV} {B1 B2 B3 : Nat} {a1 a2 a3 : Option Addr} {d1 d2 d3 : Nat} {W : World} (hf : Fits x) (h1 : OwnF B1 (bits (fsort x.rs)) (.slice a1 (bits (fsort x.rs)).length d1) W) (h2 : OwnS B2 (refAllN [] (N.forms x.ss)) (.slice a2 (refAllN [] (N.forms x.ss)).length d2) W) (h3 : OwnF B3 (bits (fsort x.ws)) (.slice a3 (bits (fsort x.ws)).length d3) W) :
    (outV x a1 a2 a3 d1 d2 d3).At W := by
  obtain ⟨f1, f2, f3⟩ := hf
  have e1 := fsort_len x.rs
  have e2 := normed_le x.ss
  have e3 := fsort_len x.ws
  exact ⟨own_fat rfl h1.2 (by show (bits (fsort x.rs)).length ≤ _; rw [bits_len]; omega) (bits_lt _), N.own_sat h2.2 (by omega), own_fat rfl h3.2 (by show (bits (fsort x.ws)).length ≤ _; rw [bits_len]; omega) (bits_lt _)⟩

theorem canon_any (x : SubV) (w : World) (h : x.At w) (hf : Fits x) :
    Calls Tryz.prog 12 #[.agg #[.int .i64 x.s0, .int .i64 x.s1, .int .i64 x.s2, .slice x.ra x.rs.length x.rc, .slice x.sa x.ss.length x.sc, .slice x.wa x.ws.length x.wc]] w (CanRet w x.s0 x.s1 x.s2 (bits (fsort x.rs)) (bits (fsort x.ws)) (refAllN [] (N.forms x.ss)) (canC x)) := by
  have hf' := hf
  obtain ⟨f1, f2, f3⟩ := hf'
  refine canon_w x.s0 x.s1 x.s2 x.ra x.sa x.wa x.rs.length x.ss.length x.ws.length x.rc x.sc x.wc _ _ _ (x.ss.any wrongS) (outChk x) w (outChk_is x) (fun W hb => ?_) (fun W hb => ?_) (fun W hb => ?_) (fun W hb => hasWrong_any _ _ _ x.ss _ W rfl (h.s.below hb) rfl) (fun v1 v2 v3 W h1 h2 h3 => ?_)
  · refine (fsort_any x.ra x.rc _ x.rs W rfl (h.r.below hb) (by omega)).mono fun e W' ⟨a, c, g1, g2, g3⟩ => ?_
    exact ⟨_, g1, ⟨⟨a, c, by rw [bits_len]⟩, by rw [bits_len]; exact own_le g2 hb.size⟩, g3⟩
  · refine (fsort_any x.wa x.wc _ x.ws W rfl (h.w.below hb) (by omega)).mono fun e W' ⟨a, c, g1, g2, g3⟩ => ?_
    exact ⟨_, g1, ⟨⟨a, c, by rw [bits_len]⟩, by rw [bits_len]; exact own_le g2 hb.size⟩, g3⟩
  · exact (N.norm_any' x.sa x.sc x.ss _ W rfl (h.s.below hb) (by omega)).mono fun e W' ⟨a, c, g1, g2, g3⟩ => ⟨_, g1, ⟨⟨a, c, rfl⟩, own_le g2 hb.size⟩, g3⟩
  · obtain ⟨⟨a1, d1, rfl⟩, _⟩ := id h1
    obtain ⟨⟨a2, d2, rfl⟩, _⟩ := id h2
    obtain ⟨⟨a3, d3, rfl⟩, _⟩ := id h3
    have hc := check_any (outV x a1 a2 a3 d1 d2 d3) W (out_at hf h1 h2 h3)
    rw [check_out] at hc
    unfold outV at hc
    simp only [List.length_map] at hc
    exact hc
theorem refCanon_any (x : SubV) (w : World) (h : x.At w) (hf : Fits x) :
    Calls Tryz.prog 13 #[.agg #[.int .i64 x.s0, .int .i64 x.s1, .int .i64 x.s2, .slice x.ra x.rs.length x.rc, .slice x.sa x.ss.length x.sc, .slice x.wa x.ws.length x.wc]] w (CanRet w x.s0 x.s1 x.s2 (bits (fsort x.rs)) (bits (fsort x.ws)) (refAllN [] (N.forms x.ss)) (canC x)) := by
  have hf' := hf
  obtain ⟨f1, f2, f3⟩ := hf'
  refine refCanon_w x.s0 x.s1 x.s2 x.ra x.sa x.wa x.rs.length x.ss.length x.ws.length x.rc x.sc x.wc x.ss _ _ _ (x.ss.any wrongS) (outChk x) w (outChk_is x) (hid rfl) (hid h.s) (hid rfl) (fun W hb => ?_) (fun W hb => ?_) (fun W hb => ?_) (fun v W hv => ?_) (fun v1 v2 v3 W h1 h2 h3 => ?_)
  · refine (refSort_any x.ra x.rc _ x.rs W rfl (h.r.below hb) (by omega)).mono fun e W' ⟨a, c, g1, g2, g3⟩ => ?_
    rw [sort_same] at g1 g2
    exact ⟨_, g1, ⟨⟨a, c, by rw [bits_len]⟩, by rw [bits_len]; exact g2⟩, g3⟩
  · refine (refSort_any x.wa x.wc _ x.ws W rfl (h.w.below hb) (by omega)).mono fun e W' ⟨a, c, g1, g2, g3⟩ => ?_
    rw [sort_same] at g1 g2
    exact ⟨_, g1, ⟨⟨a, c, by rw [bits_len]⟩, by rw [bits_len]; exact g2⟩, g3⟩
  · exact (N.refNorm_any x.sa x.sc x.ss _ W rfl (h.s.below hb) (by omega)).mono fun e W' ⟨a, c, g1, g2, g3⟩ => ⟨_, g1, ⟨_, ⟨a, c, rfl⟩, g2⟩, g3⟩
  · obtain ⟨base, ⟨a, c, rfl⟩, ho⟩ := hv
    have := normed_le x.ss
    exact (N.refSpans_any a c base _ W ho (by omega)).mono fun e W' ⟨a', c', g1, g2, g3⟩ => ⟨_, g1, ⟨⟨a', c', rfl⟩, g2⟩, g3⟩
  · obtain ⟨⟨a1, d1, rfl⟩, _⟩ := id h1
    obtain ⟨⟨a2, d2, rfl⟩, _⟩ := id h2
    obtain ⟨⟨a3, d3, rfl⟩, _⟩ := id h3
    have hc := refCheck_any (outV x a1 a2 a3 d1 d2 d3) W (out_at hf h1 h2 h3)
    rw [check_out] at hc
    unfold outV at hc
    simp only [List.length_map] at hc
    exact hc
end Go.Proofs.YtgpkfgeflcdbcaaGreat.K
