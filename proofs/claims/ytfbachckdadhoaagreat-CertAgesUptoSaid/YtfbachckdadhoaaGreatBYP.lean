/- A cert's bytes: plain. -/
import Derived.Test.YtfbachckdadhoaaGreatMCR
import Derived.Test.YtfbachckdadhoaaGreatMPE
namespace Go.Proofs.YtfbachckdadhoaaGreat.C
set_option linter.unusedVariables false
open Go.RowKit Fl
open Go.Proofs.YtfbachckdadhoaaGreat.P (numB keyB codeN encO NumD)
set_option linter.unusedSimpArgs false

def itB (x : ItV) : List Nat := keyB (codeN x.k.bits) ++ numB x.n
def itsB (its : List ItV) : List Nat := numB its.length ++ its.flatMap itB
def itqB (x : Q.ItV) : List Nat := keyB (codeN x.k.lo.bits) ++ keyB (codeN x.k.hi.bits) ++ numB x.n
def itqsB (its : List Q.ItV) : List Nat := numB its.length ++ its.flatMap itqB
def recB (r : RecV) : List Nat := (if r.out = true then 1 else 0) :: (numB (encO r.s).length ++ encO r.s)
def headB (c : CL) : List Nat := numB c.count ++ numB c.horizon ++ numB c.recs.length
def bytesC (c : CL) : List Nat := headB c ++ c.recs.flatMap recB ++ itsB c.i1 ++ itsB c.i2 ++ itsB c.i3 ++ itqsB c.i4
theorem encO_n (x : SubV) : encO (SubV.n x) = encO x := rfl
theorem recB_n (r : RecV) : recB (RecV.n r) = recB r := rfl
theorem bytesC_n (c : CL) : bytesC (CL.n c) = bytesC c := by
 unfold bytesC CL.n headB
 simp only [List.flatMap_map, List.length_map]
 rfl
theorem flat_snoc {α β : Type} {f : α → List β} {l : List α} {i : Nat} {y : α} (h : l[i]? = some y) : (l.take (i + 1)).flatMap f = (l.take i).flatMap f ++ f y := by
 rw [List.take_add_one, h, List.flatMap_append]; simp
theorem encO_len2 {x : SubV} {w : World} (hx : x.At w) (h : K.SubV.check x = 0) : 0 < (encO x).length ∧ (encO x).length ≤ 4096 := by
 obtain ⟨hnb, hmb, _⟩ := P.check0 h
 obtain ⟨l1, l2, l3⟩ := K.mb_false hmb
 have ok := P.vals_ok x w hx hnb hmb
 unfold encO
 rw [if_pos h]
 have h1 := P.packB_plain ok (P.vals_plain x)
 have h2 : (P.valsOf x).length = 6 + x.rs.length + 2 * x.ss.length + x.ws.length := by
  unfold P.valsOf
  simp [P.encNums, P.encS_len]; omega
 refine ⟨?_, by omega⟩
 have h3 : P.packB (P.valsOf x) = numB x.s0 ++ P.packB ((P.valsOf x).tail) := rfl
 rw [h3, List.length_append]
 have : 0 < (numB x.s0).length := by unfold numB; by_cases h : P.zig x.s0 < 128; rw [P.vlq_lt h]; simp; rw [P.vlq_ge h]; simp
 omega
end Go.Proofs.YtfbachckdadhoaaGreat.C
