/- How the arguments' readings are opened. -/
import Derived.Test.YtgpkfgeflcdbcaaGreatRows
import Derived.WalkKit
import Derived.ProofKit
import Derived.OpenShut
import Derived.ChangeOld
import Derived.Below
import Derived.Carry
import Derived.Lib.SmallJoins
import Derived.Laws.Cover2
namespace Go.Proofs.YtgpkfgeflcdbcaaGreat
set_option linter.unusedVariables false
open Go.ChangeShapes Go.WideShapes Go.ChangeAt Go.RowKit

theorem own : ownKnob Tryz.prog.godebug = none := by kernel_rfl
theorem laidOut : laidOutB Tryz.prog = true := by kernel_rfl

set_option maxRecDepth 100000
section
variable {H : Type} {enc : TypeId × Value → H} {w : World} {base : Nat} {spare : Nat → Bool} {held : Bool}

theorem trod_floatOf {P : Program} {t : TypeId} {cs : List Value} {x : DataW H × List MemPlace} {fuel : Nat} (ht : P.underlying t = some (.float .f64)) (h : DataW.trod enc P w base spare held fuel t cs = some x) : ∃ n, cs = [.float .f64 n] ∧ n < 2 ^ 64 := by
  cases fuel with
  | zero => simp [DataW.trod] at h
  | succ n =>
    unfold DataW.trod at h
    rw [ht] at h
    split at h <;> simp_all
    rename_i hk
    subst hk
    have h2 := h.1.2
    simpa [Lit.wf] using h2

theorem open_floatArg {r : Reach} {b0 : Nat} {v : Value} {d : DataW H} {ps : List MemPlace} (hval : Value.okWide Tryz.prog w r b0 33 v) (hd : DataW.Trod enc Tryz.prog w base spare held 33 v d ps) :
    ∃ b, v = .float .f64 b ∧ b < 2 ^ 64 := by
  obtain ⟨b, h1, _, _, h2⟩ := open_float Tryz.underlying33 hval hd
  exact ⟨b, h1, by simpa [Lit.wf] using h2⟩

theorem open_spanArg {r : Reach} {b0 : Nat} {v : Value} {d : DataW H} {ps : List MemPlace} (hval : Value.okWide Tryz.prog w r b0 50 v) (hd : DataW.Trod enc Tryz.prog w base spare held 50 v d ps) :
    ∃ lo hi a b, v = .agg #[.float .f64 lo, .float .f64 hi, .bool a, .bool b] ∧ lo < 2 ^ 64 ∧ hi < 2 ^ 64 := by
  obtain ⟨c0, c1, c2, c3, y0, y1, y2, y3, m, rfl, rfl, rfl, hy0, hy1, hy2, hy3⟩ := Joins.open_agg4 Tryz.underlying50 (by kernel_rfl) (by kernel_rfl) hval hd
  obtain ⟨a0, e0, w0⟩ := trod_floatOf Tryz.underlying33 hy0
  obtain ⟨a1, e1, w1⟩ := trod_floatOf Tryz.underlying33 hy1
  obtain ⟨a2, e2, _⟩ := DataW.trod_bool Tryz.underlying4 hy2
  obtain ⟨a3, e3, _⟩ := DataW.trod_bool Tryz.underlying4 hy3
  simp only [List.cons.injEq, and_true] at e0 e1 e2 e3
  subst e0 e1 e2 e3
  exact ⟨a0, a1, a2, a3, rfl, w0, w1⟩
end
end Go.Proofs.YtgpkfgeflcdbcaaGreat
