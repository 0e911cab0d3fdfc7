/- Several texts as one: NS NN. -/
import Derived.Test.YtdeeoddacnealaaGreatMNK
import Derived.Test.YtdeeoddacnealaaGreatMN
import Derived.Test.YtdeeoddacnealaaGreatLaySp
import Derived.Test.YtdeeoddacnealaaGreatMD
import Derived.Shelf.SlSortCmp.NoneTotal
set_option linter.unusedVariables false
namespace Go.Proofs.YtdeeoddacnealaaGreat.N
open Go.RowKit Fl Go.Sort

def cfK (x y:RK):Int:=cmpI (codeR x.rg) (codeR y.rg)
def sortK (l:List RK):List RK:=l.mergeSort fun x y=>!(ltOf cfK) y x
theorem cfK_lt (x y:RK):ltOf cfK x y=decide (codeR x.rg<codeR y.rg):=by
 unfold ltOf cfK cmpI
 by_cases h1:codeR x.rg<codeR y.rg
 ·rw [if_pos h1];simp [h1]
 ·rw [if_neg h1]
  by_cases h2:codeR y.rg<codeR x.rg
  ·rw [if_pos h2];simp [h1]
  ·rw [if_neg h2];simp [h1]
theorem cfK_swo:SWO (ltOf cfK):=by
 refine ⟨fun x=>?_,fun x y z h1 h2=>?_,fun x y z h1 h2=>?_⟩
 ·rw [cfK_lt];simp
 ·rw [cfK_lt,decide_eq_true_eq] at *;omega
 ·rw [cfK_lt,decide_eq_false_iff_not] at *;omega
theorem cfK_total (x y:RK) (h1:ltOf cfK x y=false) (h2:ltOf cfK y x=false):x=y:=by
 rw [cfK_lt,decide_eq_false_iff_not] at h1 h2
 exact rk_inj (by omega)
theorem sortK_len (l:List RK):(sortK l).length=l.length:=List.length_mergeSort _
theorem sortK_mem (l:List RK) (x:RK):x∈sortK l↔x∈l:=List.mem_mergeSort
theorem sortK_rises (l:List RK):risesLo (sortK l):=by
 have h:=List.pairwise_mergeSort (le:=fun x y=>!(ltOf cfK) y x) (fun a b c h1 h2=>by simp only [cfK_lt,Bool.not_eq_true',decide_eq_false_iff_not] at *;omega) (fun a b=>by simp only [cfK_lt,Bool.or_eq_true,Bool.not_eq_true',decide_eq_false_iff_not];omega) l
 refine h.imp fun {a b} h=>?_
 simp only [cfK_lt,Bool.not_eq_true',decide_eq_false_iff_not] at h
 have:=codeR_some b.lo b.hi a.lo a.hi
 unfold RK.rg at h
 omega
theorem D_canonS (lo hi:Nat) (a b:Bool):canonS lo hi a b=canonS lo hi a b:=rfl
theorem D_cmpR (r s:Rg):cmpR r s=cmpR r s:=by rcases r with _|⟨l,h⟩ <;> rcases s with _|⟨l',h'⟩ <;> rfl

theorem cmp_rk (x y:RK) (w:World) :
  Calls Tryz.prog 159 #[.agg #[.float .f64 x.lo.bits,.float .f64 x.hi.bits,.bool false,.bool false],.agg #[.float .f64 y.lo.bits,.float .f64 y.hi.bits,.bool false,.bool false]] w fun e w'=>e=.returned (.int .i64 (cfK x y))∧∃ q os',w'=grow (w.drewN q) os':=by
 have h:=D.cmp_any x.lo.bits x.hi.bits y.lo.bits y.hi.bits false false false false w (Key.bits_lt _) (Key.bits_lt _) (Key.bits_lt _) (Key.bits_lt _)
 have e:cmpR (canonS x.lo.bits x.hi.bits false false) (canonS y.lo.bits y.hi.bits false false)=cfK x y:=by
  rw [D_canonS,D_canonS,canonS_canon _ _ x.le,canonS_canon _ _ y.le,D_cmpR,cmpR_code];rfl
 rw [e] at h
 exact h.mono fun e w' ⟨h1,h2⟩=>⟨h1,grown_eq h2.os h2.tape h2.output h2.size h2.block h2.drawn⟩

theorem cmp_lays (blk off size:Nat) (w:World):CmpLays Tryz.prog 159 #[] enc 4 cfK blk off size w:=fun m os dk _ x y=>cmp_rk x y _

theorem cmp_enters:∀ args w,(callFunc 159 args).run Tryz.prog w=.ok (.enter 159 args) w:=enters_of Tryz.func159 (by kernel_rfl) rfl

theorem sort_forms (w:World) (base:Nat) (a:Option Addr) (c:Nat) (l:List RK) (hown:w.ownsRow base 150 4 (.slice a l.length c) l.length (sCells l)) (hl:l.length<4611686018427387904) :
  Calls Tryz.prog 185 #[.slice a l.length c,.func (.func 159) #[] #[]] w fun e w'=>e=.returned (.tuple #[]) ∧
   w'.ownsRow base 150 4 (.slice a l.length c) l.length (sCells (sortK l))∧w.grownBy w' (Value.slice a l.length c).ownBlock:=by
 by_cases h0:l.length=0
 ·have hl0:l=[]:=List.eq_nil_of_length_eq_zero h0
  subst hl0
  refine (AnyF.slices_SortFunc_none sortSp a c (.func (.func 159) #[] #[]) w).mono fun e w' ⟨h1,h2⟩=>?_
  subst h2
  exact ⟨h1,by rw [show sortK []=[] from List.eq_nil_of_length_eq_zero (sortK_len [])];exact hown,⟨rfl,rfl,rfl,Nat.le_refl _,fun _ _ _=>rfl⟩⟩
 ·rcases hown.2 with ⟨h1,h2⟩|⟨g,cap,cur,h1,hbase,hb,hnc,hcm,hcs,htake⟩
  ·omega
  ·cases h1
   have h:=AnyQ.slices_SortFunc_total sortSp 4 Tryz.isAgg150 Tryz.sizeOf150 enc enc_len enc_one cfK cfK_swo 159 #[] g 0 c l.toArray w cmp_enters (cmp_lays g 0 _ w) (holdsK_of_row enc_len hb htake) (Array.getElem?_eq_some_iff.1 hb).1 (by simpa using hl) cfK_total
   rw [show l.toArray.size=l.length from List.size_toArray] at h
   refine h.mono fun e w' ⟨h1,n,os,h2⟩=>?_
   subst h2
   exact ⟨h1,ownsRow_sortedK enc_len (sortK_len l) hbase hb hnc hcm hcs,grownBy_sortedK _⟩
open Go.RowKit Fl

theorem norm_any (a:Option Addr) (c:Nat) (ss:List SpanV) (n:Nat) (w:World) (hn:ss.length=n) (h:SAt w a ss) (hlen:n≤5864062014634) :
  Calls Tryz.prog 111 #[.slice a n c] w (NormRet w (joinAll [] (sortK (forms ss)))) :=
 norm_of sortK sortK_len sortK_rises sort_forms a c ss n w hn h hlen
theorem norm_ref (ss:List SpanV):joinAll [] (sortK (forms ss))=refAllN [] (forms ss):=norm_same (sortK_mem _) (sortK_rises _)
theorem norm_any' (a:Option Addr) (c:Nat) (ss:List SpanV) (n:Nat) (w:World) (hn:ss.length=n) (h:SAt w a ss) (hlen:n≤5864062014634) :
  Calls Tryz.prog 111 #[.slice a n c] w (NormRet w (refAllN [] (forms ss))):=by
 rw [←norm_ref];exact norm_any a c ss n w hn h hlen

end Go.Proofs.YtdeeoddacnealaaGreat.N