/- Walks of span: Meet, Join, whole; Apart, Within. -/
import Derived.Test.YtibimhjbhincnaaB3
import Derived.Test.YtibimhjbhincnaaG0
namespace Go.Proofs.Ytibimhjbhincnaa
set_option linter.unusedVariables false
open Go.RowKit Fl

/-- The keys of either, if they are a span's. -/
def joinR : Rg → Rg → Rg × Bool
  | none, r => (r, true)
  | some x, none => (some x, true)
  | some (l, h), some (l', h') => if flt (knext h).bits l'.bits = true then (none, false) else if flt (knext h').bits l.bits = true then (none, false) else (some (kLeast l l', kMost h h'), true)

theorem join_any (lo hi lo' hi' : Nat) (a b a' b' : Bool) (w : World) (hl : lo < 2 ^ 64) (hh : hi < 2 ^ 64) (hl' : lo' < 2 ^ 64) (hh' : hi' < 2 ^ 64) :
    Calls Try.prog 45 #[.agg #[.float .f64 lo, .float .f64 hi, .bool a, .bool b], .agg #[.float .f64 lo', .float .f64 hi', .bool a', .bool b']] w
      (Ret (.tuple #[spv (joinR (canonS lo hi a b) (canonS lo' hi' a' b')).1, .bool (joinR (canonS lo hi a b) (canonS lo' hi' a' b')).2]) w) := by
  rcases hr : canonS lo hi a b with _ | ⟨l, h⟩ <;> rcases hr' : canonS lo' hi' a' b' with _ | ⟨l', h'⟩
  · exact join_nn lo hi lo' hi' a b a' b' w hl hh hl' hh' (hid hr) (hid hr')
  · exact join_ns lo hi lo' hi' a b a' b' w hl hh hl' hh' (hid hr) l' h' (hid hr')
  · exact join_sn lo hi lo' hi' a b a' b' w hl hh hl' hh' l h (hid hr) (hid hr')
  · simp only [joinR]
    cases F1 : flt (knext h).bits l'.bits
    · cases F2 : flt (knext h').bits l.bits
      · exact join_ssC lo hi lo' hi' a b a' b' w hl hh hl' hh' l h (hid hr) l' h' (hid hr') F1 F2
      · exact join_ssB lo hi lo' hi' a b a' b' w hl hh hl' hh' l h (hid hr) l' h' (hid hr') F1 F2
    · exact join_ssA lo hi lo' hi' a b a' b' w hl hh hl' hh' l h (hid hr) l' h' (hid hr') F1

theorem meet_isN (lo hi lo' hi' : Nat) (a b a' b' : Bool) (w : World) (hl : lo < 2 ^ 64) (hh : hi < 2 ^ 64) (hl' : lo' < 2 ^ 64) (hh' : hi' < 2 ^ 64) (hm : Hid (meetR (canonS lo hi a b) (canonS lo' hi' a' b') = none)) :
    Calls Try.prog 41 #[.agg #[.float .f64 lo, .float .f64 hi, .bool a, .bool b], .agg #[.float .f64 lo', .float .f64 hi', .bool a', .bool b']] w (Ret (.agg #[.float .f64 0, .float .f64 0, .bool true, .bool true]) w) := by
  have h := meet_any lo hi lo' hi' a b a' b' w hl hh hl' hh'
  rw [hm.out] at h
  exact h
theorem meet_isS (lo hi lo' hi' : Nat) (a b a' b' : Bool) (l2 h2 : Key) (w : World) (hl : lo < 2 ^ 64) (hh : hi < 2 ^ 64) (hl' : lo' < 2 ^ 64) (hh' : hi' < 2 ^ 64) (hm : Hid (meetR (canonS lo hi a b) (canonS lo' hi' a' b') = some (l2, h2))) :
    Calls Try.prog 41 #[.agg #[.float .f64 lo, .float .f64 hi, .bool a, .bool b], .agg #[.float .f64 lo', .float .f64 hi', .bool a', .bool b']] w (Ret (.agg #[.float .f64 l2.bits, .float .f64 h2.bits, .bool false, .bool false]) w) := by
  have h := meet_any lo hi lo' hi' a b a' b' w hl hh hl' hh'
  rw [hm.out] at h
  exact h

theorem meetR_le {x y : Rg} {l h : Key} (e : meetR x y = some (l, h)) : l.v ≤ h.v := by
  rcases x with _ | ⟨l1, h1⟩ <;> rcases y with _ | ⟨l2, h2⟩ <;> simp only [meetR] at e
  · cases e
  · cases e
  · cases e
  · exact canonS_le e

set_option maxRecDepth 100000 in
theorem apart_any (lo hi lo' hi' : Nat) (a b a' b' : Bool) (w : World) (hl : lo < 2 ^ 64) (hh : hi < 2 ^ 64) (hl' : lo' < 2 ^ 64) (hh' : hi' < 2 ^ 64) :
    Calls Try.prog 43 #[.agg #[.float .f64 lo, .float .f64 hi, .bool a, .bool b], .agg #[.float .f64 lo', .float .f64 hi', .bool a', .bool b']] w (Ret (.bool (meetR (canonS lo hi a b) (canonS lo' hi' a' b')).isNone) w) := by
  rcases hm : meetR (canonS lo hi a b) (canonS lo' hi' a' b') with _ | ⟨l2, h2⟩
  · have Hm : Hid (meetR (canonS lo hi a b) (canonS lo' hi' a' b') = none) := hid hm
    have He : Hid ((canonS 0 0 true true).isNone = true) := hid (by rw [canonS_empty]; rfl)
    clear hm
    go_enter Try.func43, Try.ntmps43
    go_wp2_with (first | (go_at_call 41; (with_reducible refine (meet_isN lo hi lo' hi' a b a' b' _ hl hh hl' hh' Hm).mono ?_); rintro e w1 ⟨rfl, hb1⟩; obtain ⟨hc1, hf1⟩ := bcell hb1; (try simp only [World.heap_drewN, World.cell?_drewN, World.frozen?_drewN] at hc1 hf1); have hz1 := hb1.size; (try simp at hz1); (try have hy1_0 : w.heap.size < w1.heap.size := by omega); (try have hy1_1 : w.heap.size + 1 < w1.heap.size := by omega); (try have hy1_2 : w.heap.size + 2 < w1.heap.size := by omega); (try have hy1_3 : w.heap.size + 3 < w1.heap.size := by omega); (try have hx1_0 : w.heap.size ≤ w1.heap.size := by omega); (try have hx1_1 : w.heap.size + 1 ≤ w1.heap.size := by omega); (try have hx1_2 : w.heap.size + 2 ≤ w1.heap.size := by omega)) | (go_at_call 20; (with_reducible refine (empty_is _ _ _ _ true _ (by omega) (by omega) He).mono ?_); rintro e w2 ⟨rfl, hb2⟩; obtain ⟨hc2, hf2⟩ := bcell hb2; (try simp only [World.heap_drewN, World.cell?_drewN, World.frozen?_drewN] at hc2 hf2); have hz2 := hb2.size; (try simp at hz2); (try have hy2_0 : w.heap.size < w2.heap.size := by omega); (try have hy2_1 : w.heap.size + 1 < w2.heap.size := by omega); (try have hy2_2 : w.heap.size + 2 < w2.heap.size := by omega); (try have hy2_3 : w.heap.size + 3 < w2.heap.size := by omega); (try have hx2_0 : w.heap.size ≤ w2.heap.size := by omega); (try have hx2_1 : w.heap.size + 1 ≤ w2.heap.size := by omega); (try have hx2_2 : w.heap.size + 2 ≤ w2.heap.size := by omega)))
    go_ret
    exact ⟨rfl, by (repeat (first | with_reducible exact Below.refl _ _ | ((with_reducible refine Below.alloc1 ?_ ?_ _); (· first | omega | (simp; done) | (simp; omega))) | (with_reducible refine Below.drew ?_) | (with_reducible refine below_drewN' ?_ _) | ((with_reducible refine Below.setCell1 ?_ ?_ _); (· first | omega | (simp; done) | (simp; omega))) | ((with_reducible refine Below.after (by assumption) ?_ ?_); (· first | omega | (simp; done) | (simp; omega)))))⟩
  · have Hm : Hid (meetR (canonS lo hi a b) (canonS lo' hi' a' b') = some (l2, h2)) := hid hm
    have He : Hid ((canonS l2.bits h2.bits false false).isNone = false) := hid (by rw [canonS_canon l2 h2 (meetR_le hm)]; rfl)
    clear hm
    go_enter Try.func43, Try.ntmps43
    go_wp2_with (first | (go_at_call 41; (with_reducible refine (meet_isS lo hi lo' hi' a b a' b' l2 h2 _ hl hh hl' hh' Hm).mono ?_); rintro e w1 ⟨rfl, hb1⟩; obtain ⟨hc1, hf1⟩ := bcell hb1; (try simp only [World.heap_drewN, World.cell?_drewN, World.frozen?_drewN] at hc1 hf1); have hz1 := hb1.size; (try simp at hz1); (try have hy1_0 : w.heap.size < w1.heap.size := by omega); (try have hy1_1 : w.heap.size + 1 < w1.heap.size := by omega); (try have hy1_2 : w.heap.size + 2 < w1.heap.size := by omega); (try have hy1_3 : w.heap.size + 3 < w1.heap.size := by omega); (try have hx1_0 : w.heap.size ≤ w1.heap.size := by omega); (try have hx1_1 : w.heap.size + 1 ≤ w1.heap.size := by omega); (try have hx1_2 : w.heap.size + 2 ≤ w1.heap.size := by omega)) | (go_at_call 20; (with_reducible refine (empty_is _ _ _ _ false _ (Key.bits_lt _) (Key.bits_lt _) He).mono ?_); rintro e w2 ⟨rfl, hb2⟩; obtain ⟨hc2, hf2⟩ := bcell hb2; (try simp only [World.heap_drewN, World.cell?_drewN, World.frozen?_drewN] at hc2 hf2); have hz2 := hb2.size; (try simp at hz2); (try have hy2_0 : w.heap.size < w2.heap.size := by omega); (try have hy2_1 : w.heap.size + 1 < w2.heap.size := by omega); (try have hy2_2 : w.heap.size + 2 < w2.heap.size := by omega); (try have hy2_3 : w.heap.size + 3 < w2.heap.size := by omega); (try have hx2_0 : w.heap.size ≤ w2.heap.size := by omega); (try have hx2_1 : w.heap.size + 1 ≤ w2.heap.size := by omega); (try have hx2_2 : w.heap.size + 2 ≤ w2.heap.size := by omega)))
    go_ret
    exact ⟨rfl, by (repeat (first | with_reducible exact Below.refl _ _ | ((with_reducible refine Below.alloc1 ?_ ?_ _); (· first | omega | (simp; done) | (simp; omega))) | (with_reducible refine Below.drew ?_) | (with_reducible refine below_drewN' ?_ _) | ((with_reducible refine Below.setCell1 ?_ ?_ _); (· first | omega | (simp; done) | (simp; omega))) | ((with_reducible refine Below.after (by assumption) ?_ ?_); (· first | omega | (simp; done) | (simp; omega)))))⟩

set_option maxRecDepth 100000 in
theorem within_NN (lo hi lo' hi' : Nat) (a b a' b' : Bool) (Hm : Hid (meetR (canonS lo hi a b) (canonS lo' hi' a' b') = none)) (Hr : Hid (canonS lo hi a b = none)) (w : World) (hl : lo < 2 ^ 64) (hh : hi < 2 ^ 64) (hl' : lo' < 2 ^ 64) (hh' : hi' < 2 ^ 64) :
    Calls Try.prog 44 #[.agg #[.float .f64 lo, .float .f64 hi, .bool a, .bool b], .agg #[.float .f64 lo', .float .f64 hi', .bool a', .bool b']] w (Ret (.bool true) w) := by
  have E0 : feq 0 0 = true := by decide +kernel
  go_enter Try.func44, Try.ntmps44
  go_wp2_with fail
  (refine wp_region_ext (by kernel_rfl) (by kernel_rfl) ?_; (repeat (go_big_quiet_step (first | (go_at_call 41; with_reducible exact Calls.ext_of (meet_isN lo hi lo' hi' a b a' b' _ hl hh hl' hh' Hm)) | (go_at_call 18; with_reducible exact Calls.ext_of (canon_isN lo hi a b _ hl hh Hr))))); refine wpQuiet_nil ?_; rintro w1 ⟨x1, hx1⟩; have hb1 := x1.b; rw [← hx1] at hb1; clear hx1 x1; obtain ⟨hc1, hf1⟩ := bcell hb1; (try simp only [World.heap_drewN, World.cell?_drewN, World.frozen?_drewN] at hc1 hf1); have hz1 := hb1.size; (try simp at hz1); (try have hy1_0 : w.heap.size < w1.heap.size := by omega); (try have hy1_1 : w.heap.size + 1 < w1.heap.size := by omega); (try have hy1_2 : w.heap.size + 2 < w1.heap.size := by omega); (try have hy1_3 : w.heap.size + 3 < w1.heap.size := by omega); (try have hx1_0 : w.heap.size ≤ w1.heap.size := by omega); (try have hx1_1 : w.heap.size + 1 ≤ w1.heap.size := by omega); (try have hx1_2 : w.heap.size + 2 ≤ w1.heap.size := by omega))
  go_wp2_with fail
  go_ret
  exact ⟨rfl, by (repeat (first | with_reducible exact Below.refl _ _ | ((with_reducible refine Below.alloc1 ?_ ?_ _); (· first | omega | (simp; done) | (simp; omega))) | (with_reducible refine Below.drew ?_) | (with_reducible refine below_drewN' ?_ _) | ((with_reducible refine Below.setCell1 ?_ ?_ _); (· first | omega | (simp; done) | (simp; omega))) | ((with_reducible refine Below.after (by assumption) ?_ ?_); (· first | omega | (simp; done) | (simp; omega)))))⟩

set_option maxRecDepth 100000 in
theorem within_NSa (lo hi lo' hi' : Nat) (a b a' b' : Bool) (Hm : Hid (meetR (canonS lo hi a b) (canonS lo' hi' a' b') = none)) (l h : Key) (Hr : Hid (canonS lo hi a b = some (l, h))) (E1 : feq 0 l.bits = false) (w : World) (hl : lo < 2 ^ 64) (hh : hi < 2 ^ 64) (hl' : lo' < 2 ^ 64) (hh' : hi' < 2 ^ 64) :
    Calls Try.prog 44 #[.agg #[.float .f64 lo, .float .f64 hi, .bool a, .bool b], .agg #[.float .f64 lo', .float .f64 hi', .bool a', .bool b']] w (Ret (.bool false) w) := by
  go_enter Try.func44, Try.ntmps44
  go_wp2_with fail
  (refine wp_region_ext (by kernel_rfl) (by kernel_rfl) ?_; (repeat (go_big_quiet_step (first | (go_at_call 41; with_reducible exact Calls.ext_of (meet_isN lo hi lo' hi' a b a' b' _ hl hh hl' hh' Hm)) | (go_at_call 18; with_reducible exact Calls.ext_of (canon_isS lo hi a b l h _ hl hh Hr))))); refine wpQuiet_nil ?_; rintro w1 ⟨x1, hx1⟩; have hb1 := x1.b; rw [← hx1] at hb1; clear hx1 x1; obtain ⟨hc1, hf1⟩ := bcell hb1; (try simp only [World.heap_drewN, World.cell?_drewN, World.frozen?_drewN] at hc1 hf1); have hz1 := hb1.size; (try simp at hz1); (try have hy1_0 : w.heap.size < w1.heap.size := by omega); (try have hy1_1 : w.heap.size + 1 < w1.heap.size := by omega); (try have hy1_2 : w.heap.size + 2 < w1.heap.size := by omega); (try have hy1_3 : w.heap.size + 3 < w1.heap.size := by omega); (try have hx1_0 : w.heap.size ≤ w1.heap.size := by omega); (try have hx1_1 : w.heap.size + 1 ≤ w1.heap.size := by omega); (try have hx1_2 : w.heap.size + 2 ≤ w1.heap.size := by omega))
  go_wp2_with fail
  go_ret
  exact ⟨rfl, by (repeat (first | with_reducible exact Below.refl _ _ | ((with_reducible refine Below.alloc1 ?_ ?_ _); (· first | omega | (simp; done) | (simp; omega))) | (with_reducible refine Below.drew ?_) | (with_reducible refine below_drewN' ?_ _) | ((with_reducible refine Below.setCell1 ?_ ?_ _); (· first | omega | (simp; done) | (simp; omega))) | ((with_reducible refine Below.after (by assumption) ?_ ?_); (· first | omega | (simp; done) | (simp; omega)))))⟩

set_option maxRecDepth 100000 in
theorem within_NSb (lo hi lo' hi' : Nat) (a b a' b' : Bool) (Hm : Hid (meetR (canonS lo hi a b) (canonS lo' hi' a' b') = none)) (l h : Key) (Hr : Hid (canonS lo hi a b = some (l, h))) (E1 : feq 0 l.bits = true) (E2 : feq 0 h.bits = false) (w : World) (hl : lo < 2 ^ 64) (hh : hi < 2 ^ 64) (hl' : lo' < 2 ^ 64) (hh' : hi' < 2 ^ 64) :
    Calls Try.prog 44 #[.agg #[.float .f64 lo, .float .f64 hi, .bool a, .bool b], .agg #[.float .f64 lo', .float .f64 hi', .bool a', .bool b']] w (Ret (.bool false) w) := by
  go_enter Try.func44, Try.ntmps44
  go_wp2_with fail
  (refine wp_region_ext (by kernel_rfl) (by kernel_rfl) ?_; (repeat (go_big_quiet_step (first | (go_at_call 41; with_reducible exact Calls.ext_of (meet_isN lo hi lo' hi' a b a' b' _ hl hh hl' hh' Hm)) | (go_at_call 18; with_reducible exact Calls.ext_of (canon_isS lo hi a b l h _ hl hh Hr))))); refine wpQuiet_nil ?_; rintro w1 ⟨x1, hx1⟩; have hb1 := x1.b; rw [← hx1] at hb1; clear hx1 x1; obtain ⟨hc1, hf1⟩ := bcell hb1; (try simp only [World.heap_drewN, World.cell?_drewN, World.frozen?_drewN] at hc1 hf1); have hz1 := hb1.size; (try simp at hz1); (try have hy1_0 : w.heap.size < w1.heap.size := by omega); (try have hy1_1 : w.heap.size + 1 < w1.heap.size := by omega); (try have hy1_2 : w.heap.size + 2 < w1.heap.size := by omega); (try have hy1_3 : w.heap.size + 3 < w1.heap.size := by omega); (try have hx1_0 : w.heap.size ≤ w1.heap.size := by omega); (try have hx1_1 : w.heap.size + 1 ≤ w1.heap.size := by omega); (try have hx1_2 : w.heap.size + 2 ≤ w1.heap.size := by omega))
  go_wp2_with fail
  go_ret
  exact ⟨rfl, by (repeat (first | with_reducible exact Below.refl _ _ | ((with_reducible refine Below.alloc1 ?_ ?_ _); (· first | omega | (simp; done) | (simp; omega))) | (with_reducible refine Below.drew ?_) | (with_reducible refine below_drewN' ?_ _) | ((with_reducible refine Below.setCell1 ?_ ?_ _); (· first | omega | (simp; done) | (simp; omega))) | ((with_reducible refine Below.after (by assumption) ?_ ?_); (· first | omega | (simp; done) | (simp; omega)))))⟩

set_option maxRecDepth 100000 in
theorem within_NSc (lo hi lo' hi' : Nat) (a b a' b' : Bool) (Hm : Hid (meetR (canonS lo hi a b) (canonS lo' hi' a' b') = none)) (l h : Key) (Hr : Hid (canonS lo hi a b = some (l, h))) (E1 : feq 0 l.bits = true) (E2 : feq 0 h.bits = true) (w : World) (hl : lo < 2 ^ 64) (hh : hi < 2 ^ 64) (hl' : lo' < 2 ^ 64) (hh' : hi' < 2 ^ 64) :
    Calls Try.prog 44 #[.agg #[.float .f64 lo, .float .f64 hi, .bool a, .bool b], .agg #[.float .f64 lo', .float .f64 hi', .bool a', .bool b']] w (Ret (.bool false) w) := by
  go_enter Try.func44, Try.ntmps44
  go_wp2_with fail
  (refine wp_region_ext (by kernel_rfl) (by kernel_rfl) ?_; (repeat (go_big_quiet_step (first | (go_at_call 41; with_reducible exact Calls.ext_of (meet_isN lo hi lo' hi' a b a' b' _ hl hh hl' hh' Hm)) | (go_at_call 18; with_reducible exact Calls.ext_of (canon_isS lo hi a b l h _ hl hh Hr))))); refine wpQuiet_nil ?_; rintro w1 ⟨x1, hx1⟩; have hb1 := x1.b; rw [← hx1] at hb1; clear hx1 x1; obtain ⟨hc1, hf1⟩ := bcell hb1; (try simp only [World.heap_drewN, World.cell?_drewN, World.frozen?_drewN] at hc1 hf1); have hz1 := hb1.size; (try simp at hz1); (try have hy1_0 : w.heap.size < w1.heap.size := by omega); (try have hy1_1 : w.heap.size + 1 < w1.heap.size := by omega); (try have hy1_2 : w.heap.size + 2 < w1.heap.size := by omega); (try have hy1_3 : w.heap.size + 3 < w1.heap.size := by omega); (try have hx1_0 : w.heap.size ≤ w1.heap.size := by omega); (try have hx1_1 : w.heap.size + 1 ≤ w1.heap.size := by omega); (try have hx1_2 : w.heap.size + 2 ≤ w1.heap.size := by omega))
  go_wp2_with fail
  go_ret
  exact ⟨rfl, by (repeat (first | with_reducible exact Below.refl _ _ | ((with_reducible refine Below.alloc1 ?_ ?_ _); (· first | omega | (simp; done) | (simp; omega))) | (with_reducible refine Below.drew ?_) | (with_reducible refine below_drewN' ?_ _) | ((with_reducible refine Below.setCell1 ?_ ?_ _); (· first | omega | (simp; done) | (simp; omega))) | ((with_reducible refine Below.after (by assumption) ?_ ?_); (· first | omega | (simp; done) | (simp; omega)))))⟩

set_option maxRecDepth 100000 in
theorem within_SSt (lo hi lo' hi' : Nat) (a b a' b' : Bool) (l2 h2 : Key) (Hm : Hid (meetR (canonS lo hi a b) (canonS lo' hi' a' b') = some (l2, h2))) (l h : Key) (Hr : Hid (canonS lo hi a b = some (l, h))) (E1 : feq l2.bits l.bits = true) (E2 : feq h2.bits h.bits = true) (w : World) (hl : lo < 2 ^ 64) (hh : hi < 2 ^ 64) (hl' : lo' < 2 ^ 64) (hh' : hi' < 2 ^ 64) :
    Calls Try.prog 44 #[.agg #[.float .f64 lo, .float .f64 hi, .bool a, .bool b], .agg #[.float .f64 lo', .float .f64 hi', .bool a', .bool b']] w (Ret (.bool true) w) := by
  go_enter Try.func44, Try.ntmps44
  go_wp2_with fail
  (refine wp_region_ext (by kernel_rfl) (by kernel_rfl) ?_; (repeat (go_big_quiet_step (first | (go_at_call 41; with_reducible exact Calls.ext_of (meet_isS lo hi lo' hi' a b a' b' l2 h2 _ hl hh hl' hh' Hm)) | (go_at_call 18; with_reducible exact Calls.ext_of (canon_isS lo hi a b l h _ hl hh Hr))))); refine wpQuiet_nil ?_; rintro w1 ⟨x1, hx1⟩; have hb1 := x1.b; rw [← hx1] at hb1; clear hx1 x1; obtain ⟨hc1, hf1⟩ := bcell hb1; (try simp only [World.heap_drewN, World.cell?_drewN, World.frozen?_drewN] at hc1 hf1); have hz1 := hb1.size; (try simp at hz1); (try have hy1_0 : w.heap.size < w1.heap.size := by omega); (try have hy1_1 : w.heap.size + 1 < w1.heap.size := by omega); (try have hy1_2 : w.heap.size + 2 < w1.heap.size := by omega); (try have hy1_3 : w.heap.size + 3 < w1.heap.size := by omega); (try have hx1_0 : w.heap.size ≤ w1.heap.size := by omega); (try have hx1_1 : w.heap.size + 1 ≤ w1.heap.size := by omega); (try have hx1_2 : w.heap.size + 2 ≤ w1.heap.size := by omega))
  go_wp2_with fail
  go_ret
  exact ⟨rfl, by (repeat (first | with_reducible exact Below.refl _ _ | ((with_reducible refine Below.alloc1 ?_ ?_ _); (· first | omega | (simp; done) | (simp; omega))) | (with_reducible refine Below.drew ?_) | (with_reducible refine below_drewN' ?_ _) | ((with_reducible refine Below.setCell1 ?_ ?_ _); (· first | omega | (simp; done) | (simp; omega))) | ((with_reducible refine Below.after (by assumption) ?_ ?_); (· first | omega | (simp; done) | (simp; omega)))))⟩

set_option maxRecDepth 100000 in
theorem within_SSa (lo hi lo' hi' : Nat) (a b a' b' : Bool) (l2 h2 : Key) (Hm : Hid (meetR (canonS lo hi a b) (canonS lo' hi' a' b') = some (l2, h2))) (l h : Key) (Hr : Hid (canonS lo hi a b = some (l, h))) (E1 : feq l2.bits l.bits = false) (w : World) (hl : lo < 2 ^ 64) (hh : hi < 2 ^ 64) (hl' : lo' < 2 ^ 64) (hh' : hi' < 2 ^ 64) :
    Calls Try.prog 44 #[.agg #[.float .f64 lo, .float .f64 hi, .bool a, .bool b], .agg #[.float .f64 lo', .float .f64 hi', .bool a', .bool b']] w (Ret (.bool false) w) := by
  go_enter Try.func44, Try.ntmps44
  go_wp2_with fail
  (refine wp_region_ext (by kernel_rfl) (by kernel_rfl) ?_; (repeat (go_big_quiet_step (first | (go_at_call 41; with_reducible exact Calls.ext_of (meet_isS lo hi lo' hi' a b a' b' l2 h2 _ hl hh hl' hh' Hm)) | (go_at_call 18; with_reducible exact Calls.ext_of (canon_isS lo hi a b l h _ hl hh Hr))))); refine wpQuiet_nil ?_; rintro w1 ⟨x1, hx1⟩; have hb1 := x1.b; rw [← hx1] at hb1; clear hx1 x1; obtain ⟨hc1, hf1⟩ := bcell hb1; (try simp only [World.heap_drewN, World.cell?_drewN, World.frozen?_drewN] at hc1 hf1); have hz1 := hb1.size; (try simp at hz1); (try have hy1_0 : w.heap.size < w1.heap.size := by omega); (try have hy1_1 : w.heap.size + 1 < w1.heap.size := by omega); (try have hy1_2 : w.heap.size + 2 < w1.heap.size := by omega); (try have hy1_3 : w.heap.size + 3 < w1.heap.size := by omega); (try have hx1_0 : w.heap.size ≤ w1.heap.size := by omega); (try have hx1_1 : w.heap.size + 1 ≤ w1.heap.size := by omega); (try have hx1_2 : w.heap.size + 2 ≤ w1.heap.size := by omega))
  go_wp2_with fail
  go_ret
  exact ⟨rfl, by (repeat (first | with_reducible exact Below.refl _ _ | ((with_reducible refine Below.alloc1 ?_ ?_ _); (· first | omega | (simp; done) | (simp; omega))) | (with_reducible refine Below.drew ?_) | (with_reducible refine below_drewN' ?_ _) | ((with_reducible refine Below.setCell1 ?_ ?_ _); (· first | omega | (simp; done) | (simp; omega))) | ((with_reducible refine Below.after (by assumption) ?_ ?_); (· first | omega | (simp; done) | (simp; omega)))))⟩

set_option maxRecDepth 100000 in
theorem within_SSb (lo hi lo' hi' : Nat) (a b a' b' : Bool) (l2 h2 : Key) (Hm : Hid (meetR (canonS lo hi a b) (canonS lo' hi' a' b') = some (l2, h2))) (l h : Key) (Hr : Hid (canonS lo hi a b = some (l, h))) (E1 : feq l2.bits l.bits = true) (E2 : feq h2.bits h.bits = false) (w : World) (hl : lo < 2 ^ 64) (hh : hi < 2 ^ 64) (hl' : lo' < 2 ^ 64) (hh' : hi' < 2 ^ 64) :
    Calls Try.prog 44 #[.agg #[.float .f64 lo, .float .f64 hi, .bool a, .bool b], .agg #[.float .f64 lo', .float .f64 hi', .bool a', .bool b']] w (Ret (.bool false) w) := by
  go_enter Try.func44, Try.ntmps44
  go_wp2_with fail
  (refine wp_region_ext (by kernel_rfl) (by kernel_rfl) ?_; (repeat (go_big_quiet_step (first | (go_at_call 41; with_reducible exact Calls.ext_of (meet_isS lo hi lo' hi' a b a' b' l2 h2 _ hl hh hl' hh' Hm)) | (go_at_call 18; with_reducible exact Calls.ext_of (canon_isS lo hi a b l h _ hl hh Hr))))); refine wpQuiet_nil ?_; rintro w1 ⟨x1, hx1⟩; have hb1 := x1.b; rw [← hx1] at hb1; clear hx1 x1; obtain ⟨hc1, hf1⟩ := bcell hb1; (try simp only [World.heap_drewN, World.cell?_drewN, World.frozen?_drewN] at hc1 hf1); have hz1 := hb1.size; (try simp at hz1); (try have hy1_0 : w.heap.size < w1.heap.size := by omega); (try have hy1_1 : w.heap.size + 1 < w1.heap.size := by omega); (try have hy1_2 : w.heap.size + 2 < w1.heap.size := by omega); (try have hy1_3 : w.heap.size + 3 < w1.heap.size := by omega); (try have hx1_0 : w.heap.size ≤ w1.heap.size := by omega); (try have hx1_1 : w.heap.size + 1 ≤ w1.heap.size := by omega); (try have hx1_2 : w.heap.size + 2 ≤ w1.heap.size := by omega))
  go_wp2_with fail
  go_ret
  exact ⟨rfl, by (repeat (first | with_reducible exact Below.refl _ _ | ((with_reducible refine Below.alloc1 ?_ ?_ _); (· first | omega | (simp; done) | (simp; omega))) | (with_reducible refine Below.drew ?_) | (with_reducible refine below_drewN' ?_ _) | ((with_reducible refine Below.setCell1 ?_ ?_ _); (· first | omega | (simp; done) | (simp; omega))) | ((with_reducible refine Below.after (by assumption) ?_ ?_); (· first | omega | (simp; done) | (simp; omega)))))⟩

/-- Are the keys of both those of the first? -/
def withinB : Rg → Rg → Bool
  | none, none => true
  | some (l2, h2), some (l, h) => feq l2.bits l.bits && feq h2.bits h.bits
  | _, _ => false

theorem within_any (lo hi lo' hi' : Nat) (a b a' b' : Bool) (w : World) (hl : lo < 2 ^ 64) (hh : hi < 2 ^ 64) (hl' : lo' < 2 ^ 64) (hh' : hi' < 2 ^ 64) :
    Calls Try.prog 44 #[.agg #[.float .f64 lo, .float .f64 hi, .bool a, .bool b], .agg #[.float .f64 lo', .float .f64 hi', .bool a', .bool b']] w
      (Ret (.bool (withinB (meetR (canonS lo hi a b) (canonS lo' hi' a' b')) (canonS lo hi a b))) w) := by
  rcases hr : canonS lo hi a b with _ | ⟨l, h⟩
  · exact within_NN lo hi lo' hi' a b a' b' (hid (by rw [hr]; rfl)) (hid hr) w hl hh hl' hh'
  · rcases hm : meetR (some (l, h)) (canonS lo' hi' a' b') with _ | ⟨l2, h2⟩
    · have Hm : Hid (meetR (canonS lo hi a b) (canonS lo' hi' a' b') = none) := hid (by rw [hr]; exact hm)
      cases E1 : feq 0 l.bits
      · exact within_NSa lo hi lo' hi' a b a' b' Hm l h (hid hr) E1 w hl hh hl' hh'
      · cases E2 : feq 0 h.bits
        · exact within_NSb lo hi lo' hi' a b a' b' Hm l h (hid hr) E1 E2 w hl hh hl' hh'
        · exact within_NSc lo hi lo' hi' a b a' b' Hm l h (hid hr) E1 E2 w hl hh hl' hh'
    · simp only [withinB]
      have Hm : Hid (meetR (canonS lo hi a b) (canonS lo' hi' a' b') = some (l2, h2)) := hid (by rw [hr]; exact hm)
      cases E1 : feq l2.bits l.bits
      · exact within_SSa lo hi lo' hi' a b a' b' l2 h2 Hm l h (hid hr) E1 w hl hh hl' hh'
      · cases E2 : feq h2.bits h.bits
        · exact within_SSb lo hi lo' hi' a b a' b' l2 h2 Hm l h (hid hr) E1 E2 w hl hh hl' hh'
        · exact within_SSt lo hi lo' hi' a b a' b' l2 h2 Hm l h (hid hr) E1 E2 w hl hh hl' hh'
end Go.Proofs.Ytibimhjbhincnaa
