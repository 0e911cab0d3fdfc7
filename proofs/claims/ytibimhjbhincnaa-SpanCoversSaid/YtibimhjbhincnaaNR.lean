/- Rows of the document's ranges; what its joining and its insertion come to. -/
import Derived.Test.YtibimhjbhincnaaNB
import Derived.Test.YtibimhjbhincnaaG1
namespace Go.Proofs.Ytibimhjbhincnaa.N
set_option linter.unusedVariables false
open Go.RowKit Fl

def encR (k : RK) : List Value := [.int .u64 (kcode k.lo), .int .u64 (kcode k.hi)]
theorem encR_len (k : RK) : (encR k).length = 2 := rfl
theorem encR_one (k : RK) : ∀ u ∈ encR k, u.oneCell' = true := by intro u hu; simp [encR] at hu; rcases hu with rfl | rfl <;> rfl
def rCells (l : List RK) : List Value := l.flatMap encR
theorem rCells_len (l : List RK) : (rCells l).length = l.length * 2 := flat_len encR_len l
theorem rangeInfo : (Try.prog.info? 28).map (fun i => (i.zero, i.size, i.bytes)) = some (some (.agg #[.int .u64 0, .int .u64 0]), 2, 16) := by kernel_rfl
theorem own_sliceR {w : World} {B : Nat} {v : Value} {l : List RK} (h : w.ownsRow B 28 2 v l.length (rCells l)) : ∃ va vc, v = .slice va l.length vc := by
  rcases h.2 with ⟨rfl, h0⟩ | ⟨g, cap, cur, rfl, _⟩
  · have := rCells_len l
    rw [h0] at this; simp at this
    exact ⟨none, 0, by rw [show l.length = 0 by omega]⟩
  · exact ⟨_, _, rfl⟩
/-- A range is added; all below the row's base stays. -/
theorem appR {w : World} {base : Nat} {a : Option Addr} {c : Nat} {l : List RK} (x : RK) (hown : w.ownsRow base 28 2 (.slice a l.length c) l.length (rCells l)) (hbase : base ≤ w.heap.size) (hl : l.length ≤ 8796093022206) :
    ∃ a' c' w', (∀ ty, (Builtin.append_ #[64, 64] ty #[.slice a l.length c, .slice (some ⟨w.heap.size, 0, none⟩) 1 1]).run Try.prog (w.alloc (.cells #[.int .u64 (kcode x.lo), .int .u64 (kcode x.hi)] 28)) = .ok (.slice a' (l.length + 1) c') w') ∧
      w'.ownsRow base 28 2 (.slice a' (l.length + 1) c') (l.length + 1) (rCells (l ++ [x])) ∧ Below base w w' := by
  obtain ⟨i0, hi0, hz0, hzs, hzb⟩ := info_parts rangeInfo
  have hb1 : Below w.heap.size w (w.alloc (.cells #[.int .u64 (kcode x.lo), .int .u64 (kcode x.hi)] 28)) := by (repeat (first | with_reducible exact Below.refl _ _ | ((with_reducible refine Below.alloc1 ?_ ?_ _); (· first | omega | (simp; done) | (simp; omega))) | (with_reducible refine Below.drew ?_) | (with_reducible refine below_drewN' ?_ _) | ((with_reducible refine Below.setCell1 ?_ ?_ _); (· first | omega | (simp; done) | (simp; omega))) | ((with_reducible refine Below.after (by assumption) ?_ ?_); (· first | omega | (simp; done) | (simp; omega)))))
  have hown1 := hown.kept (grown_of_below hb1) (by cases (Value.slice a l.length c).ownBlock <;> simp)
  obtain ⟨v', w', hr, h2, h3⟩ := run_append_own2 (P := Try.prog) (w.alloc (.cells #[.int .u64 (kcode x.lo), .int .u64 (kcode x.hi)] 28)) base 64 28 i0 _ 2 16 Try.underlying64 hi0 hz0 hzs hzb rfl (by omega) _ _ _ hown1 ⟨w.heap.size, 0, none⟩ 1 1 (encR x) rfl
    (fun j u hj => by
      have hrow : (w.alloc (.cells #[.int .u64 (kcode x.lo), .int .u64 (kcode x.hi)] 28)).heap[w.heap.size]? = some (.cells #[.int .u64 (kcode x.lo), .int .u64 (kcode x.hi)] 28 (0, 0)) := heap_alloc_new w _
      rw [addr0, cell_row hrow]
      rw [← hj]; simp [encR]) (encR_one x) (by omega) (by unfold maxLen; omega) (by omega) (by simp; omega)
  have hc : rCells l ++ encR x = rCells (l ++ [x]) := by simp [rCells]
  rw [hc] at h2
  have hlen : (l ++ [x]).length = l.length + 1 := by simp
  rw [← hlen] at h2
  obtain ⟨a', c', rfl⟩ := own_sliceR h2
  rw [hlen] at h2 hr
  exact ⟨a', c', w', hr, h2, (hb1.mono hbase).grown h3.1 (by simp; omega) (fun k hk => (hown.lt k hk).1)⟩

theorem refJoin_touch (x y : RK) (h : decide (touch x y) = true) (w : World) :
    Calls Try.prog 46 #[.agg #[.int .u64 (kcode x.lo), .int .u64 (kcode x.hi)], .agg #[.int .u64 (kcode y.lo), .int .u64 (kcode y.hi)]] w (Ret (.tuple #[.agg #[.int .u64 (kcode (join2 x y).lo), .int .u64 (kcode (join2 x y).hi)], .bool true]) w) := by
  have ht : touch x y := by simpa using h
  unfold touch at ht
  refine refJoinG x.rg y.rg (some ((join2 x y).lo, (join2 x y).hi)) true w (hid x.ok) (hid y.ok) (hid ?_)
  show joinR (some (x.lo, x.hi)) (some (y.lo, y.hi)) = _
  simp only [joinR, next_lt]
  rw [if_neg (by simp; omega), if_neg (by simp; omega)]
  congr 2
theorem refJoin_far (x y : RK) (h : decide (touch x y) = false) (w : World) :
    Calls Try.prog 46 #[.agg #[.int .u64 (kcode x.lo), .int .u64 (kcode x.hi)], .agg #[.int .u64 (kcode y.lo), .int .u64 (kcode y.hi)]] w (Ret (.tuple #[.agg #[.int .u64 1, .int .u64 0], .bool false]) w) := by
  have ht : ¬ touch x y := by simpa using h
  unfold touch at ht
  refine refJoinG x.rg y.rg none false w (hid x.ok) (hid y.ok) (hid ?_)
  show joinR (some (x.lo, x.hi)) (some (y.lo, y.hi)) = _
  simp only [joinR, next_lt]
  by_cases h1 : x.hi.v + 1 < y.lo.v
  · rw [if_pos (by simpa using h1)]
  · rw [if_neg (by simpa using h1), if_pos (by simp; omega)]

/-! The document's insertion, step by step. -/
def insStep (r : RK) (p : List RK × Bool) (x : RK) : List RK × Bool := if (!p.2 && decide (kcode r.lo < kcode x.lo)) = true then (p.1 ++ [r, x], true) else (p.1 ++ [x], p.2)
def insF (r : RK) (l : List RK) : List RK × Bool := l.foldl (insStep r) ([], false)
theorem insStep_done (r : RK) : ∀ (l acc : List RK), l.foldl (insStep r) (acc, true) = (acc ++ l, true)
  | [], acc => by simp
  | x :: l, acc => by
    show l.foldl (insStep r) (insStep r (acc, true) x) = _
    rw [show insStep r (acc, true) x = (acc ++ [x], true) from rfl, insStep_done r l]
    simp
theorem insStep_open (r : RK) : ∀ (l acc : List RK), (if (l.foldl (insStep r) (acc, false)).2 = true then (l.foldl (insStep r) (acc, false)).1 else (l.foldl (insStep r) (acc, false)).1 ++ [r]) = acc ++ insLo l r
  | [], acc => rfl
  | x :: l, acc => by
    show (if (l.foldl (insStep r) (insStep r (acc, false) x)).2 = true then (l.foldl (insStep r) (insStep r (acc, false) x)).1 else (l.foldl (insStep r) (insStep r (acc, false) x)).1 ++ [r]) = _
    unfold insLo
    by_cases h : r.lo.v < x.lo.v
    · have e : insStep r (acc, false) x = (acc ++ [r, x], true) := by unfold insStep; rw [if_pos (by simpa [kcode_lt] using h)]
      rw [e, insStep_done, if_pos rfl, if_pos h]
      simp
    · have e : insStep r (acc, false) x = (acc ++ [x], false) := by unfold insStep; rw [if_neg (by simpa [kcode_lt] using h)]
      rw [e, insStep_open r l, if_neg h]
      simp
theorem insF_fin (r : RK) (l : List RK) : (if (insF r l).2 = true then (insF r l).1 else (insF r l).1 ++ [r]) = insLo l r := insStep_open r l []
theorem insF_take {r : RK} {l : List RK} {k : Nat} {x : RK} (h : l[k]? = some x) : insF r (l.take (k + 1)) = insStep r (insF r (l.take k)) x := by
  unfold insF
  rw [List.take_add_one, h, List.foldl_append]; rfl
theorem insStep_len (r : RK) (p : List RK × Bool) (x : RK) : (insStep r p x).1.length ≤ p.1.length + (if p.2 = true then 1 else if (insStep r p x).2 = true then 2 else 1) := by
  unfold insStep
  rcases p with ⟨p, b⟩
  cases b
  · by_cases h : decide (kcode r.lo < kcode x.lo) = true
    · simp [h]
    · simp [h]
  · simp
theorem insF_len (r : RK) (l : List RK) : (insF r l).1.length = l.length + (if (insF r l).2 = true then 1 else 0) := by
  have key : ∀ (l : List RK) (acc : List RK), (l.foldl (insStep r) (acc, false)).1.length = acc.length + l.length + (if (l.foldl (insStep r) (acc, false)).2 = true then 1 else 0) := by
    intro l
    induction l with
    | nil => intro acc; simp
    | cons x l ih =>
      intro acc
      show (l.foldl (insStep r) (insStep r (acc, false) x)).1.length = acc.length + (l.length + 1) + (if (l.foldl (insStep r) (insStep r (acc, false) x)).2 = true then 1 else 0)
      by_cases h : decide (kcode r.lo < kcode x.lo) = true
      · have e : insStep r (acc, false) x = (acc ++ [r, x], true) := by unfold insStep; rw [if_pos (by simpa using h)]
        rw [e, insStep_done]; simp; omega
      · have e : insStep r (acc, false) x = (acc ++ [x], false) := by unfold insStep; rw [if_neg (by simpa using h)]
        rw [e, ih]; simp; omega
  have := key l []
  rw [List.length_nil, Nat.zero_add] at this
  exact this
theorem absorb_take {r : RK} {l : List RK} {k : Nat} {x : RK} (h : l[k]? = some x) : absorb (r, []) (l.take (k + 1)) = absStep (absorb (r, []) (l.take k)) x := by
  unfold absorb
  rw [List.take_add_one, h, List.foldl_append]; rfl
theorem absorb_len : ∀ (l : List RK) (p : RK × List RK), (absorb p l).2.length ≤ p.2.length + l.length
  | [], p => Nat.le_refl _
  | x :: l, p => by
    have h := absorb_len l (absStep p x)
    have h2 : (absStep p x).2.length ≤ p.2.length + 1 := by unfold absStep; split <;> simp
    show (absorb (absStep p x) l).2.length ≤ _
    simp; omega
theorem insLo_len : ∀ (l : List RK) (r : RK), (insLo l r).length = l.length + 1
  | [], _ => rfl
  | x :: t, r => by
    unfold insLo
    split
    · simp
    · simp [insLo_len t r]
theorem refStep_len (out : List RK) (r : RK) : (refStep out r).length ≤ out.length + 1 := by
  unfold refStep
  rw [insLo_len]
  have := absorb_len out (r, [])
  simp at this; omega
theorem refAllN_len (l : List RK) : ∀ out : List RK, (refAllN out l).length ≤ out.length + l.length := by
  induction l with
  | nil => intro out; exact Nat.le_refl _
  | cons x l ih =>
    intro out
    have h1 := ih (refStep out x)
    have h2 := refStep_len out x
    show (refAllN (refStep out x) l).length ≤ _
    simp; omega
theorem refAllN_snoc (out l : List RK) (x : RK) : refAllN out (l ++ [x]) = refStep (refAllN out l) x := by unfold refAllN; rw [List.foldl_append]; rfl
end Go.Proofs.Ytibimhjbhincnaa.N
