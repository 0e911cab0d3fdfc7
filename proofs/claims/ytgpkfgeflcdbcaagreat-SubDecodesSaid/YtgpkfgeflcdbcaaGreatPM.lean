/- The document's Decode: its pieces. -/
import Derived.Test.YtgpkfgeflcdbcaaGreatPJ
namespace Go.Proofs.YtgpkfgeflcdbcaaGreat.P
set_option linter.unusedVariables false
open Go.RowKit Fl

def iCells (l : List Int) : List Value := l.map fun n => .int .i64 n
theorem int64Info : (Tryz.prog.info? 2).map (fun i => (i.zero, i.size, i.bytes)) = some (some (.int .i64 0), 1, 8) := by kernel_rfl
/-- A number is added. -/
theorem appI {w : World} {base n : Nat} {a : Option Addr} {c : Nat} {xs : List Int} (y : Int) (hn : xs.length = n) (hown : w.ownsRow base 2 1 (.slice a n c) n (iCells xs)) (hbase : base ≤ w.heap.size) (hl : n ≤ 1000) :
    ∃ a' c' w', (∀ ty, (Builtin.append_ #[69, 69] ty #[.slice a n c, .slice (some ⟨w.heap.size, 0, none⟩) 1 1]).run Tryz.prog (w.alloc (.cells #[.int .i64 y] 2)) = .ok (.slice a' (n + 1) c') w') ∧
      w'.ownsRow base 2 1 (.slice a' (n + 1) c') (n + 1) (iCells (xs ++ [y])) ∧ Below base w w' := by
  obtain ⟨i0, hi0, hz0, hzs, hzb⟩ := info_parts int64Info
  have hb1 : Below w.heap.size w (w.alloc (.cells #[.int .i64 y] 2)) := by (repeat (first | with_reducible exact Below.refl _ _ | ((with_reducible refine Below.alloc1 ?_ ?_ _); (· first | omega | (simp; done) | (simp; omega))) | (with_reducible refine Below.drew ?_) | (with_reducible refine below_drewN' ?_ _) | ((with_reducible refine Below.setCell1 ?_ ?_ _); (· first | omega | (simp; done) | (simp; omega))) | ((with_reducible refine Below.after (by assumption) ?_ ?_); (· first | omega | (simp; done) | (simp; omega)))))
  have hown1 := hown.kept (K.grown_of_below hb1) (by cases (Value.slice a n c).ownBlock <;> simp)
  obtain ⟨v', w', hr, h2, h3⟩ := run_append_own2 (P := Tryz.prog) (w.alloc (.cells #[.int .i64 y] 2)) base 69 2 i0 _ 1 8 Tryz.underlying69 hi0 hz0 hzs hzb rfl (by omega) _ _ _ hown1 ⟨w.heap.size, 0, none⟩ 1 1 [.int .i64 y] rfl
    (fun j u hj => by
      have hrow : (w.alloc (.cells #[.int .i64 y] 2)).heap[w.heap.size]? = some (.cells #[.int .i64 y] 2 (0, 0)) := heap_alloc_new w _
      rw [K.addr0, cell_of_row _ _ j _ _ (0, 0) hrow]
      rw [← hj]; simp) (by intro u hu; rw [List.mem_singleton.1 hu]; rfl) (by omega) (by unfold maxLen; omega) (by omega) (by simp; omega)
  have hc : iCells xs ++ [.int .i64 y] = iCells (xs ++ [y]) := by simp [iCells]
  rw [hc] at h2
  have hv : ∃ va vc, v' = .slice va (n + 1) vc := by
    rcases h2.2 with ⟨rfl, h4⟩ | ⟨g, cap, cur, rfl, _⟩
    · omega
    · exact ⟨_, _, rfl⟩
  obtain ⟨a', c', rfl⟩ := hv
  exact ⟨a', c', w', hr, h2, (hb1.mono hbase).grown h3.1 (by simp; omega) (fun k hk => (hown.lt k hk).1)⟩
/-- Pairs. -/
def prs : List Nat → List (Nat × Nat)
  | a :: b :: t => (a, b) :: prs t
  | _ => []
theorem prs_snoc : ∀ (n : Nat) (xs : List Nat) (a b : Nat), xs.length = n * 2 → prs (xs ++ [a, b]) = prs xs ++ [(a, b)]
  | 0, xs, a, b, h => by
    obtain rfl : xs = [] := List.eq_nil_of_length_eq_zero (by omega)
    rfl
  | n + 1, x :: y :: t, a, b, h => by
    have : t.length = n * 2 := by simp at h; omega
    show (x, y) :: prs (t ++ [a, b]) = (x, y) :: prs t ++ [(a, b)]
    rw [prs_snoc n t a b this]; rfl
  | n + 1, [x], a, b, h => by simp at h; omega
  | n + 1, [], a, b, h => by simp at h
theorem prs_len : ∀ (n : Nat) (xs : List Nat), xs.length = n * 2 → (prs xs).length = n
  | 0, xs, h => by
    obtain rfl : xs = [] := List.eq_nil_of_length_eq_zero (by omega)
    rfl
  | n + 1, x :: y :: t, h => by
    have : t.length = n * 2 := by simp at h; omega
    show (prs t).length + 1 = n + 1
    rw [prs_len n t this]
  | n + 1, [x], h => by simp at h; omega
  | n + 1, [], h => by simp at h
theorem many_len {α : Type} {p : List Nat → Option (α × List Nat)} : ∀ {n : Nat} {b r : List Nat} {xs : List α}, getMany p n b = some (xs, r) → xs.length = n
  | 0, b, r, xs, h => by cases h; rfl
  | n + 1, b, r, xs, h => by
    rw [getMany] at h
    cases h1 : getMany p n b with
    | none => rw [h1] at h; cases h
    | some q =>
      obtain ⟨ys, s⟩ := q
      rw [h1] at h
      simp only at h
      cases h2 : p s with
      | none => rw [h2] at h; cases h
      | some q2 =>
        obtain ⟨y, t⟩ := q2
        rw [h2] at h
        cases h
        rw [List.length_append, many_len h1]; rfl
theorem sp_many : ∀ (n : Nat) (r : List Nat), getMany getSp n r = (getMany getKey (n * 2) r).map fun q => (prs q.1, q.2)
  | 0, r => rfl
  | n + 1, r => by
    have e : (n + 1) * 2 = n * 2 + 1 + 1 := by omega
    rw [e, getMany, getMany, getMany, sp_many n r]
    cases h1 : getMany getKey (n * 2) r with
    | none => rfl
    | some q =>
      obtain ⟨xs, s⟩ := q
      have hl := many_len h1
      simp only [Option.map_some]
      cases h2 : getKey s with
      | none => rw [show getSp s = none from both_none h2]; rfl
      | some q2 =>
        obtain ⟨x, t⟩ := q2
        simp only
        cases h3 : getKey t with
        | none => rw [show getSp s = none by unfold getSp; rw [both_map h2, h3]; rfl]; rfl
        | some q3 =>
          obtain ⟨y, v⟩ := q3
          rw [show getSp s = some ((x, y), v) by unfold getSp; rw [both_map h2, h3]; rfl]
          simp only [Option.map_some, Option.some.injEq, Prod.mk.injEq, and_true]
          rw [List.append_assoc, List.singleton_append, prs_snoc n xs x y hl]
theorem tk_row (most : Nat) (b : List Nat) : tk most 1 b = getRow most getKey b := by
  unfold tk getRow
  cases getCount most b with
  | none => rfl
  | some p => simp only [Nat.mul_one]
theorem tk_sp (most : Nat) (b : List Nat) : getRow most getSp b = (tk most 2 b).map fun q => (prs q.1, q.2) := by
  unfold tk getRow
  cases getCount most b with
  | none => rfl
  | some p => exact sp_many _ _
def parse2 : List Nat → Option ((List Nat × List (Nat × Nat) × List Nat) × List Nat) := both (getRow 16 getKey) (both (getRow 8 getSp) (getRow 16 getKey))
theorem parse3 (bs : List Nat) : parse bs = match getMany getNum 3 bs with
    | some ([a, b, c], l) => (parse2 l).map fun z => ((a, b, c, z.1), z.2)
    | _ => none := by
  unfold parse
  simp only [getMany]
  cases h0 : getNum bs with
  | none => rw [both_none h0]
  | some p =>
    obtain ⟨n0, l0⟩ := p
    rw [both_map h0]
    simp only
    cases h1 : getNum l0 with
    | none => rw [both_none h1]; rfl
    | some p =>
      obtain ⟨n1, l1⟩ := p
      rw [both_map h1]
      simp only
      cases h2 : getNum l1 with
      | none => rw [both_none h2]; rfl
      | some p =>
        obtain ⟨n2, l2⟩ := p
        rw [both_map h2]
        simp only [List.nil_append, List.cons_append]
        unfold parse2
        cases both (getRow 16 getKey) (both (getRow 8 getSp) (getRow 16 getKey)) l2 <;> rfl
theorem num3_none {bs : List Nat} (h : getMany getNum 3 bs = none) : dec bs = none := by
  unfold dec; rw [parse3, h]
end Go.Proofs.YtgpkfgeflcdbcaaGreat.P
