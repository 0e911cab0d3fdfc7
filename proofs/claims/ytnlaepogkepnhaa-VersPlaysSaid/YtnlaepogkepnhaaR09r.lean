/- The document's table of layer 9: Put, as refPutI. -/
import Derived.Test.YtnlaepogkepnhaaVN
namespace Go.Proofs.Ytnlaepogkepnhaa
set_option linter.unusedVariables false
open Go.RowKit Fl

/-- The table that Put hands back: the same slice, or one of its own. -/
def RefPutPost (w : World) (most : Int) (a : Option Addr) (c : Nat) (ms : List ItV) (r : Int × List ItV) (e : Ending) (w' : World) : Prop :=
  Below w.heap.size w w' ∧ ∃ a' c', e = .returned (.tuple #[.agg #[.int .i64 most, .slice a' r.2.length c'], .int .i64 r.1]) ∧ ((a' = a ∧ c' = c ∧ r.2 = ms) ∨ w'.ownsRow w.heap.size 55 2 (.slice a' r.2.length c') r.2.length (itCells r.2))
theorem refPut_any (most n : Int) (a : Option Addr) (c kb : Nat) (ms : List ItV) (w : World) (hm : MAt w a ms) (hk : kb < 2 ^ 64) :
    Calls Try.prog 20 #[.agg #[.int .i64 most, .slice a ms.length c], .float .f64 kb, .int .i64 n] w (RefPutPost w most a c ms (refPutI ms most kb n)) := by
  have same : ∀ cd, refPutI ms most kb n = (cd, ms) → Calls Try.prog 20 #[.agg #[.int .i64 most, .slice a ms.length c], .float .f64 kb, .int .i64 n] w (Ret (.tuple #[.agg #[.int .i64 most, .slice a ms.length c], .int .i64 cd]) w) → Calls Try.prog 20 #[.agg #[.int .i64 most, .slice a ms.length c], .float .f64 kb, .int .i64 n] w (RefPutPost w most a c ms (refPutI ms most kb n)) := fun cd h1 h2 => by
    refine h2.mono ?_
    rintro e w' ⟨rfl, hb⟩
    rw [h1]
    exact ⟨hb, a, c, rfl, .inl ⟨rfl, rfl, rfl⟩⟩
  by_cases h1 : isNaN kb = true
  · exact same 40 (by simp [refPutI, h1]) (refPut_same most n 40 a c kb ms w hm hk (.inl ⟨h1, rfl⟩))
  · have h1' : isNaN kb = false := by simpa using h1
    by_cases h2 : n < 1 ∨ 1099511627776 < n
    · refine same 43 (by simp only [refPutI, if_neg h1, if_pos h2]) (refPut_same most n 43 a c kb ms w hm hk ?_)
      by_cases h3 : n < 1
      · exact .inr (.inl ⟨h1', h3, rfl⟩)
      · exact .inr (.inr (.inl ⟨h1', by omega, by omega, rfl⟩))
    · by_cases h3 : atR ms kb = 0 ∧ most ≤ (ms.length : Int)
      · exact same 3 (by simp only [refPutI, if_neg h1, if_neg h2, if_pos h3]) (refPut_same most n 3 a c kb ms w hm hk (.inr (.inr (.inr (.inl ⟨h1', by omega, by omega, h3.1, h3.2, rfl⟩)))))
      · by_cases h4 : n ≤ atR ms kb
        · exact same 0 (by simp only [refPutI, if_neg h1, if_neg h2, if_neg h3, if_pos h4]) (refPut_same most n 0 a c kb ms w hm hk (.inr (.inr (.inr (.inr ⟨h1', by omega, by omega, h4, rfl⟩)))))
        · have e : refPutI ms most kb n = (0, rest kb ms ++ [⟨kof kb, n⟩]) := by simp only [refPutI, if_neg h1, if_neg h2, if_neg h3, if_neg h4]
          rw [e]
          refine (refPut_new most n a c kb ms w hm hk h1' (by omega) (by omega) (by omega) ?_).mono ?_
          · by_cases h5 : atR ms kb = 0
            · exact .inl ⟨h5, by omega⟩
            · exact .inr (by simpa using h5)
          · rintro e w' ⟨a', c', rfl, h6, h7⟩
            exact ⟨h7, a', c', rfl, .inr h6⟩
end Go.Proofs.Ytnlaepogkepnhaa
