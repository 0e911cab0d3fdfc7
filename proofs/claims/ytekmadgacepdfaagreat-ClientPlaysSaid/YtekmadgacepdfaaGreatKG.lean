/- sub.Check and the document's Check, over submissions. -/
import Derived.Test.YtekmadgacepdfaaGreatKE
namespace Go.Proofs.YtekmadgacepdfaaGreat.K
set_option linter.unusedVariables false
open Go.RowKit Fl

theorem mb_false {x : SubV} (h : SubV.mb x = false) : x.rs.length ≤ 16 ∧ x.ss.length ≤ 8 ∧ x.ws.length ≤ 16 := by
 unfold SubV.mb at h
 simp only [Bool.or_eq_false_iff, decide_eq_false_iff_not] at h
 omega
theorem normed_le (ss : List SpanV) : (refAllN [] (N.forms ss)).length ≤ ss.length := by
 have h1 := N.refAllN_len (N.forms ss) []
 have h2 := N.forms_le ss
 simp at h1; omega
theorem check_any (x : SubV) (w : World) (h : x.At w) :
  Calls Tryz.prog 54 #[.agg #[.int .i64 x.s0, .int .i64 x.s1, .int .i64 x.s2, .slice x.ra x.rs.length x.rc, .slice x.sa x.ss.length x.sc, .slice x.wa x.ws.length x.wc]] w (Ret (.int .i64 (SubV.check x)) w) := by
 refine check_w x.s0 x.s1 x.s2 x.ra x.sa x.wa x.rs.length x.ss.length x.ws.length x.rc x.sc x.wc (refAllN [] (N.forms x.ss)) _ _ _ _ _ _ _ _ w (fun W => numbers_any _ _ _ _ _ _ _ _ _ _ _ _ _ rfl W) (fun W => many_any _ _ _ _ _ _ _ _ _ _ _ _ _ rfl W)
  (fun W hb => hasNan_any _ _ _ x.rs _ W rfl (h.r.below hb) rfl) (fun W hb => hasNan_any _ _ _ x.ws _ W rfl (h.w.below hb) rfl) (fun W hb => hasEmpty_any _ _ _ x.ss _ W rfl (h.s.below hb) rfl)
  (fun hm W hb => rising_any _ _ _ x.rs _ W rfl (h.r.below hb) (by have := mb_false (x := x) hm; omega) rfl) (fun hm W hb => rising_any _ _ _ x.ws _ W rfl (h.w.below hb) (by have := mb_false (x := x) hm; omega) rfl)
  (fun hm W hb => (N.norm_any' x.sa x.sc x.ss x.ss.length W rfl (h.s.below hb) (by have := mb_false (x := x) hm; omega)).mono fun e W' ⟨a, c, h1, h2, h3⟩ => ⟨_, h1, ⟨a, c, rfl, N.own_sat h2 (by have := mb_false (x := x) hm; have := normed_le x.ss; omega)⟩, h3⟩)
  (fun v W hv hb => ?_)
 obtain ⟨a, c, rfl, hs⟩ := hv
 exact equalS_any x.sa a x.sc c _ _ x.ss (refAllN [] (N.forms x.ss)) _ W rfl rfl (h.s.below hb) hs rfl

set_option maxHeartbeats 1000000 in
theorem refCheck_nb (s0 s1 s2 : Int) (ra sa wa : Option Addr) (n1 n2 n3 rc sc wc : Nat) (w : World) (hv : (okN s0 1 && okN s1 1 && okN s2 0) = false) :
  Calls Tryz.prog 51 #[.agg #[.int .i64 s0, .int .i64 s1, .int .i64 s2, .slice ra n1 rc, .slice sa n2 sc, .slice wa n3 wc]] w (Ret (.int .i64 43) w) := by
 by_cases h1 : s0 < 1
 ·clear hv
  go_enter Tryz.func51, Tryz.ntmps51
  go_wp2
  go_ret
  exact ⟨rfl, by exact below_auto⟩
 by_cases h2 : (1099511627776 : Int) < s0
 ·clear hv
  go_enter Tryz.func51, Tryz.ntmps51
  go_wp2
  go_ret
  exact ⟨rfl, by exact below_auto⟩
 by_cases h3 : s1 < 1
 ·clear hv
  go_enter Tryz.func51, Tryz.ntmps51
  go_wp2
  go_ret
  exact ⟨rfl, by exact below_auto⟩
 by_cases h4 : (1099511627776 : Int) < s1
 ·clear hv
  go_enter Tryz.func51, Tryz.ntmps51
  go_wp2
  go_ret
  exact ⟨rfl, by exact below_auto⟩
 by_cases h5 : s2 < 0
 ·clear hv
  go_enter Tryz.func51, Tryz.ntmps51
  go_wp2
  go_ret
  exact ⟨rfl, by exact below_auto⟩
 by_cases h6 : (1099511627776 : Int) < s2
 ·clear hv
  go_enter Tryz.func51, Tryz.ntmps51
  go_wp2
  go_ret
  exact ⟨rfl, by exact below_auto⟩
 exfalso
 unfold okN at hv
 rw [decide_eq_true (show (1 : Int) ≤ s0 by omega), decide_eq_true (show s0 ≤ 1099511627776 by omega), decide_eq_true (show (1 : Int) ≤ s1 by omega), decide_eq_true (show s1 ≤ 1099511627776 by omega), decide_eq_true (show (0 : Int) ≤ s2 by omega), decide_eq_true (show s2 ≤ 1099511627776 by omega)] at hv
 simp at hv
theorem nb_true {s0 s1 s2 : Int} (hv : (okN s0 1 && okN s1 1 && okN s2 0) = true) : (1 : Int) ≤ s0 ∧ s0 ≤ 1099511627776 ∧ (1 : Int) ≤ s1 ∧ s1 ≤ 1099511627776 ∧ (0 : Int) ≤ s2 ∧ s2 ≤ 1099511627776 := by
 unfold okN at hv
 simp only [Bool.and_eq_true, decide_eq_true_eq] at hv
 omega
set_option maxHeartbeats 1000000 in
theorem refCheck_mb (s0 s1 s2 : Int) (ra sa wa : Option Addr) (n1 n2 n3 rc sc wc : Nat) (w : World) (hn : (okN s0 1 && okN s1 1 && okN s2 0) = true) (hv : (decide (16 < n1) || decide (8 < n2) || decide (16 < n3)) = true) :
  Calls Tryz.prog 51 #[.agg #[.int .i64 s0, .int .i64 s1, .int .i64 s2, .slice ra n1 rc, .slice sa n2 sc, .slice wa n3 wc]] w (Ret (.int .i64 3) w) := by
 obtain ⟨k1, k2, k3, k4, k5, k6⟩ := nb_true hn
 have q1 : ¬ s0 < 1 := by omega
 have q2 : ¬ (1099511627776 : Int) < s0 := by omega
 have q3 : ¬ s1 < 1 := by omega
 have q4 : ¬ (1099511627776 : Int) < s1 := by omega
 have q5 : ¬ s2 < 0 := by omega
 have q6 : ¬ (1099511627776 : Int) < s2 := by omega
 clear k1 k2 k3 k4 k5 k6 hn
 by_cases h1 : (16 : Int) < (n1 : Int)
 ·clear hv
  go_enter Tryz.func51, Tryz.ntmps51
  go_wp2
  go_ret
  exact ⟨rfl, by exact below_auto⟩
 by_cases h2 : (8 : Int) < (n2 : Int)
 ·clear hv
  go_enter Tryz.func51, Tryz.ntmps51
  go_wp2
  go_ret
  exact ⟨rfl, by exact below_auto⟩
 by_cases h3 : (16 : Int) < (n3 : Int)
 ·clear hv
  go_enter Tryz.func51, Tryz.ntmps51
  go_wp2
  go_ret
  exact ⟨rfl, by exact below_auto⟩
 exfalso
 rw [decide_eq_false (show ¬ 16 < n1 by omega), decide_eq_false (show ¬ 8 < n2 by omega), decide_eq_false (show ¬ 16 < n3 by omega)] at hv
 simp at hv

theorem refCheck_any (x : SubV) (w : World) (h : x.At w) :
  Calls Tryz.prog 51 #[.agg #[.int .i64 x.s0, .int .i64 x.s1, .int .i64 x.s2, .slice x.ra x.rs.length x.rc, .slice x.sa x.ss.length x.sc, .slice x.wa x.ws.length x.wc]] w (Ret (.int .i64 (SubV.check x)) w) := by
 unfold SubV.check
 cases hnb : SubV.nb x
 ·exact refCheck_nb _ _ _ _ _ _ _ _ _ _ _ _ w hnb
 cases hmb : SubV.mb x
 rotate_left
 ·exact refCheck_mb _ _ _ _ _ _ _ _ _ _ _ _ w hnb hmb
 obtain ⟨k1, k2, k3, k4, k5, k6⟩ := nb_true hnb
 obtain ⟨m1, m2, m3⟩ := mb_false hmb
 refine refCheck_w x.s0 x.s1 x.s2 x.ra x.sa x.wa x.rs.length x.ss.length x.ws.length x.rc x.sc x.wc x.ss (refAllN [] (N.forms x.ss)) (bits (fsort x.rs)) (bits (fsort x.ws)) _ _ _ _ _ _ w k1 k2 k3 k4 k5 k6 m1 m2 m3 (hid rfl) (hid h.s) (hid rfl)
  (fun W hb => refNanL_any _ _ _ x.rs _ W rfl (h.r.below hb) rfl) (fun W hb => refNanL_any _ _ _ x.ws _ W rfl (h.w.below hb) rfl)
  (fun W hb => ?_) (fun W hb => ?_) (fun v W hv hb => ?_) (fun v W hv hb => ?_) (fun W hb => ?_) (fun v W hv => ?_) (fun v W hv hb => ?_)
 ·refine (refSort_any x.ra x.rc _ x.rs W rfl (h.r.below hb) (by omega)).mono fun e W' ⟨a, c, h1, h2, h3⟩ => ?_
  rw [sort_same] at h1 h2
  have := fsort_len x.rs
  exact ⟨_, h1, ⟨a, c, by rw [bits_len], own_fat (bits_len _) h2 (by omega) (bits_lt _)⟩, h3⟩
 ·refine (refSort_any x.wa x.wc _ x.ws W rfl (h.w.below hb) (by omega)).mono fun e W' ⟨a, c, h1, h2, h3⟩ => ?_
  rw [sort_same] at h1 h2
  have := fsort_len x.ws
  exact ⟨_, h1, ⟨a, c, by rw [bits_len], own_fat (bits_len _) h2 (by omega) (bits_lt _)⟩, h3⟩
 ·obtain ⟨a, c, rfl, hf⟩ := hv
  exact sameKeysF _ _ _ _ _ _ x.rs (bits (fsort x.rs)) _ W rfl rfl (h.r.below hb) hf rfl
 ·obtain ⟨a, c, rfl, hf⟩ := hv
  exact sameKeysF _ _ _ _ _ _ x.ws (bits (fsort x.ws)) _ W rfl rfl (h.w.below hb) hf rfl
 ·exact (N.refNorm_any x.sa x.sc x.ss _ W rfl (h.s.below hb) (by omega)).mono fun e W' ⟨a, c, h1, h2, h3⟩ => ⟨_, h1, ⟨_, ⟨a, c, rfl⟩, h2⟩, h3⟩
 ·obtain ⟨base, ⟨a, c, rfl⟩, ho⟩ := hv
  have := normed_le x.ss
  exact (N.refSpans_any a c base _ W ho (by omega)).mono fun e W' ⟨a', c', h1, h2, h3⟩ => ⟨_, h1, ⟨a', c', rfl, N.own_sat h2 (by omega)⟩, h3⟩
 ·obtain ⟨a, c, rfl, hs⟩ := hv
  exact N.refSameS_any x.sa a x.sc c _ _ x.ss _ _ W rfl (by simp) (h.s.below hb) hs (by unfold ordS; rw [decide_eq_true_eq])
end Go.Proofs.YtekmadgacepdfaaGreat.K
