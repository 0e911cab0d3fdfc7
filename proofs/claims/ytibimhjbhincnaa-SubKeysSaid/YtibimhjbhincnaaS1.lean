/- Rows of floats, and slices.Contains, slices.ContainsFunc, the document's has over them. -/
import Derived.Test.YtibimhjbhincnaaL0
import Derived.Test.YtibimhjbhincnaaE
namespace Go.Proofs.Ytibimhjbhincnaa
set_option linter.unusedVariables false
open Go.RowKit Fl

/-- A row of floats lies at a slice's address. -/
structure FAt (w : World) (a : Option Addr) (xs : List Nat) : Prop where
  row : xs = [] ∨ ∃ b o, a = some ⟨b, o, none⟩ ∧ b < w.heap.size ∧ ∀ i, i < xs.length → w.cell? ⟨b, o + i, none⟩ = some (.float .f64 (xs[i]?.getD 0))
  lt : ∀ i, i < xs.length → xs[i]?.getD 0 < 2 ^ 64
  len : xs.length ≤ maxLen

theorem FAt.below {w w' : World} {a : Option Addr} {xs : List Nat} (h : FAt w a xs) (hb : Below w.heap.size w w') : FAt w' a xs := by
  refine ⟨?_, h.lt, h.len⟩
  rcases h.row with h0 | ⟨b, o, h1, h2, h3⟩
  · exact .inl h0
  · exact .inr ⟨b, o, h1, Nat.lt_of_lt_of_le h2 hb.size, fun i hi => (hb.cell (p := ⟨b, o + i, none⟩) h2).trans (h3 i hi)⟩

/-- Where the first one is of which p holds; -1 if there is none. -/
def idxB {α : Type} (p : α → Bool) (xs : List α) : Int := match xs.findIdx? p with | some i => i | none => -1
theorem idxB_none {α : Type} {p : α → Bool} {xs : List α} (h : ∀ (i : Nat) x, xs[i]? = some x → p x = false) : idxB p xs = -1 := by
  unfold idxB
  rw [List.findIdx?_eq_none_iff.2 (fun x hx => ?_)]
  obtain ⟨i, hi⟩ := List.mem_iff_getElem?.1 hx
  exact h i x hi
theorem idxB_some {α : Type} {p : α → Bool} {xs : List α} {k : Nat} {x : α} (hk : xs[k]? = some x) (hp : p x = true) (h : ∀ j : Nat, j < k → ∀ y, xs[j]? = some y → p y = false) : idxB p xs = k := by
  unfold idxB
  have hlt : k < xs.length := (List.getElem?_eq_some_iff.1 hk).1
  have hx : xs[k] = x := (List.getElem?_eq_some_iff.1 hk).2
  have : xs.findIdx? p = some k := by
    rw [List.findIdx?_eq_some_iff_getElem]
    refine ⟨hlt, by rw [hx]; exact hp, fun j hj => ?_⟩
    have := h j hj xs[j] (List.getElem?_eq_getElem (by omega))
    simp [this]
  rw [this]
theorem idxB_any {α : Type} (p : α → Bool) (xs : List α) : decide (0 ≤ idxB p xs) = xs.any p := by
  rw [Bool.eq_iff_iff, decide_eq_true_eq, List.any_eq_true]
  unfold idxB
  constructor
  · intro h
    cases e : xs.findIdx? p with
    | none => rw [e] at h; simp at h
    | some i =>
      obtain ⟨hi, hp, _⟩ := List.findIdx?_eq_some_iff_getElem.1 e
      exact ⟨_, List.getElem_mem hi, hp⟩
  · rintro ⟨x, hx, hp⟩
    cases e : xs.findIdx? p with
    | none => rw [List.findIdx?_eq_none_iff] at e; have := e x hx; rw [hp] at this; cases this
    | some i => simp

theorem fl_some {xs : List Nat} {k : Nat} (h : k < xs.length) : xs[k]? = some (xs[k]?.getD 0) := by rw [List.getElem?_eq_getElem h]; rfl

theorem feq_comm' (a b : Nat) : feq a b = feq b a := by
  unfold feq; rw [Bool.and_comm (!isNaN a), show decide ((kof a).v = (kof b).v) = decide ((kof b).v = (kof a).v) from decide_eq_decide.2 ⟨Eq.symm, Eq.symm⟩]

theorem slIndex_any (a : Option Addr) (c key : Nat) (xs : List Nat) (n : Nat) (w : World) (hn : xs.length = n) (h : FAt w a xs) :
    Calls Try.prog 79 #[.slice a n c, .float .f64 key] w fun e w' => e = .returned (.int .i64 (idxB (fun x => feq key x) xs)) ∧ w = w' := by
  obtain ⟨hr, hl, hm⟩ := h
  unfold maxLen at hm
  rcases hr with rfl | ⟨b, o, rfl, hb, hc⟩
  · simp only [List.length_nil] at hn
    subst hn
    have e : idxB (fun x => feq key x) [] = -1 := rfl
    rw [e]
    clear hl e
    go_enter Try.func79, Try.ntmps79
    go_wp2
    go_loop [8] (fun i => i = .int .i64 0) (fun _ => 0)
    case atStart => rfl
    case round =>
      subst hrel
      go_wp2
      go_ret
      exact ⟨rfl, rfl⟩
  · have HC := hid hc; have HN := hid hn
    rw [hn] at hm
    clear hc hn hl
    go_enter Try.func79, Try.ntmps79
    go_wp2
    go_loop [8] (fun i => ∃ k : Nat, k ≤ n ∧ i = .int .i64 k ∧ Hid (∀ j, j < k → ∀ y, xs[j]? = some y → feq key y = false)) (fun i => n - (intOf i).toNat)
    case atStart => exact ⟨0, Nat.zero_le _, rfl, hid fun j hj => absurd hj (Nat.not_lt_zero _)⟩
    case round =>
      obtain ⟨k, hk, rfl, HR⟩ := hrel
      by_cases hlt : k < n
      · have hcell := HC.out k (by rw [HN.out]; exact hlt)
        have hlt' : (k : Int) < (n : Int) := by omega
        have hkx := hid (fl_some (xs := xs) (k := k) (by rw [HN.out]; exact hlt))
        cases hp : feq key (xs[k]?.getD 0)
        · go_wp2
          go_round
          case rel => exact ⟨k + 1, by omega, by go_num, hid fun j hj y hy => by
              by_cases h : j < k
              · exact HR.out j h y hy
              · obtain rfl : j = k := by omega
                rw [hkx.out] at hy; cases hy; exact hp⟩
          case measure => simp [intOf]; omega
        · go_wp2
          go_ret
          exact ⟨ret_int (by rw [idxB_some hkx.out hp HR.out]), rfl⟩
      · obtain rfl : k = n := by omega
        go_wp2
        go_ret
        refine ⟨ret_int ?_, rfl⟩
        rw [idxB_none]
        intro i x hx
        refine HR.out i ?_ x hx
        have := (List.getElem?_eq_some_iff.1 hx).1
        have := HN.out
        omega

theorem slContains_any (a : Option Addr) (c key : Nat) (xs : List Nat) (n : Nat) (w : World) (hn : xs.length = n) (h : FAt w a xs) :
    Calls Try.prog 64 #[.slice a n c, .float .f64 key] w fun e w' => e = .returned (.bool (xs.any fun x => feq key x)) ∧ w = w' := by
  have H := fun W hW => slIndex_any a c key xs n W hn hW
  rw [← idxB_any]
  generalize idxB (fun x => feq key x) xs = r at *
  have hn' := hid hn
  clear hn
  go_enter Try.func64, Try.ntmps64
  go_wp2_with (go_at_call 79; (with_reducible refine (H _ h).mono ?_); rintro e w' ⟨rfl, rfl⟩)
  go_ret
  exact ⟨rfl, rfl⟩

theorem refHasF_any (a : Option Addr) (c key : Nat) (xs : List Nat) (n : Nat) (w : World) (hn : xs.length = n) (h : FAt w a xs) :
    Calls Try.prog 67 #[.slice a n c, .float .f64 key] w fun e w' => e = .returned (.bool (xs.any fun x => feq key x)) ∧ w = w' := by
  obtain ⟨hr, hl, hm⟩ := h
  unfold maxLen at hm
  rcases hr with rfl | ⟨b, o, rfl, hb, hc⟩
  · simp only [List.length_nil] at hn
    subst hn
    have e : ([] : List Nat).any (fun x => feq key x) = false := rfl
    rw [e]
    clear hl e
    go_enter Try.func67, Try.ntmps67
    go_wp2
    go_loop [5] (fun i => i = .int .i64 0) (fun _ => 0)
    case atStart => rfl
    case round =>
      subst hrel
      go_wp2
      go_ret
      exact ⟨rfl, rfl⟩
  · have HC := hid hc; have HN := hid hn
    rw [hn] at hm
    clear hc hn hl
    go_enter Try.func67, Try.ntmps67
    go_wp2
    go_loop [5] (fun i => ∃ k : Nat, k ≤ n ∧ i = .int .i64 k ∧ Hid (∀ j, j < k → ∀ y, xs[j]? = some y → feq key y = false)) (fun i => n - (intOf i).toNat)
    case atStart => exact ⟨0, Nat.zero_le _, rfl, hid fun j hj => absurd hj (Nat.not_lt_zero _)⟩
    case round =>
      obtain ⟨k, hk, rfl, HR⟩ := hrel
      by_cases hlt : k < n
      · have hcell := HC.out k (by rw [HN.out]; exact hlt)
        have hlt' : (k : Int) < (n : Int) := by omega
        have hkx := hid (fl_some (xs := xs) (k := k) (by rw [HN.out]; exact hlt))
        cases hp : feq (xs[k]?.getD 0) key
        · go_wp2
          go_round
          case rel => exact ⟨k + 1, by omega, by go_num, hid fun j hj y hy => by
              by_cases h : j < k
              · exact HR.out j h y hy
              · obtain rfl : j = k := by omega
                rw [hkx.out] at hy; cases hy; rw [feq_comm']; exact hp⟩
          case measure => simp [intOf]; omega
        · go_wp2
          go_ret
          refine ⟨ret_bool ?_, rfl⟩
          symm
          rw [List.any_eq_true]
          exact ⟨_, List.mem_iff_getElem?.2 ⟨k, hkx.out⟩, by rw [feq_comm']; exact hp⟩
      · obtain rfl : k = n := by omega
        go_wp2
        go_ret
        refine ⟨ret_bool ?_, rfl⟩
        symm
        rw [← idxB_any, idxB_none]
        · rfl
        intro i x hx
        refine HR.out i ?_ x hx
        have := (List.getElem?_eq_some_iff.1 hx).1
        have := HN.out
        omega
end Go.Proofs.Ytibimhjbhincnaa
