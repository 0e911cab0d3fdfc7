/- Several texts as one: CQ CT. -/
import Derived.Test.YtdeeoddacnealaaGreatMCR
import Derived.Test.YtdeeoddacnealaaGreatCO
set_option linter.unusedVariables false
set_option linter.unusedSimpArgs false
namespace Go.Proofs.YtdeeoddacnealaaGreat.C
open Go.RowKit Fl

theorem dec_ok {B T:Nat} {c:CL} {ow:Nat→Nat} {w:World} (h:CAt B T c ow w) (hkl:(c.recs.length:Int)≤c.keep) {x y:SubV} (hs:SameS y x) (hy:SubL (fun k=>ow k=0) y w) (hchk:K.SubV.check x=0) (hcode:codeD (CL.n c) (SubV.n x) 0=0) {n:Int} (hn:c.count+1=n) :
  Calls Tryz.prog 14 #[.pointer (some ⟨T,0,none⟩),.agg #[.int .i64 y.s0,.int .i64 y.s1,.int .i64 y.s2,.slice y.ra y.rs.length y.rc,.slice y.sa y.ss.length y.sc,.slice y.wa y.ws.length y.wc]] w fun e w'=>e=.returned (.agg #[.int .i64 0,.int .i64 n])∧∃ (c':CL) (ow':Nat→Nat),CAt B T c' ow' w'∧Fr ow ow' w w'∧CL.n c'=(CL.n c).commit (SubV.n x) (decide (0<(lookD (CL.n c) (SubV.n x)).least)):=by
 subst hn
 have hc:codeD c y (K.SubV.check y)=0:=by rw [check_same hs,hchk,←codeD_n,same_n hs];exact hcode
 refine (decide_any h hkl y hy).mono ?_
 rintro e w' ⟨ow',hF,⟨h1,_⟩|⟨_,rfl,z,a,k,hz,hC⟩⟩
 ·exact absurd hc h1
 ·refine ⟨rfl,_,ow',hC,hF,?_⟩
  rw [commit_n,same_n hz,same_n hs,←lookD_n c y,same_n hs]
theorem dec_no {B T:Nat} {c:CL} {ow:Nat→Nat} {w:World} (h:CAt B T c ow w) (hkl:(c.recs.length:Int)≤c.keep) {x y:SubV} (hs:SameS y x) (hy:SubL (fun k=>ow k=0) y w) {code:Int} (hcode:codeD (CL.n c) (SubV.n x) (K.SubV.check x)=code) (hne:code≠0) :
  Calls Tryz.prog 14 #[.pointer (some ⟨T,0,none⟩),.agg #[.int .i64 y.s0,.int .i64 y.s1,.int .i64 y.s2,.slice y.ra y.rs.length y.rc,.slice y.sa y.ss.length y.sc,.slice y.wa y.ws.length y.wc]] w fun e w'=>e=.returned (.agg #[.int .i64 code,.int .i64 0])∧∃ ow':Nat→Nat,CAt B T c ow' w'∧Fr ow ow' w w':=by
 have hc:codeD c y (K.SubV.check y)=code:=by rw [check_same hs,←codeD_n,same_n hs];exact hcode
 refine (decide_any h hkl y hy).mono ?_
 rintro e w' ⟨ow',hF,⟨h1,rfl,hC⟩|⟨h1,_⟩⟩
 ·exact ⟨by rw [hc],ow',hC,hF⟩
 ·exact absurd (hc.symm.trans h1) hne
section
variable {B1 T1 B2 T2 : Nat} {c1 c2 c' : CL} {ow1 ow2 ow' : Nat → Nat} {W W' : World}
end

end Go.Proofs.YtdeeoddacnealaaGreat.C