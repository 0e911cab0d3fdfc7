/- Several texts as one: R01 KR KE KG. -/
import Derived.Test.YtdeeoddacnealaaGreatMFL
import Derived.Test.YtdeeoddacnealaaGreatMC0
import Derived.Test.YtdeeoddacnealaaGreatMNK
import Derived.Test.YtdeeoddacnealaaGreatMR
import Derived.Deep.CutBlock
import Derived.Test.YtdeeoddacnealaaGreatMKD
set_option linter.unusedVariables false
set_option linter.unusedSimpArgs false
namespace Go.Proofs.YtdeeoddacnealaaGreat
open Go.RowKit Fl

end Go.Proofs.YtdeeoddacnealaaGreat
namespace Go.Proofs.YtdeeoddacnealaaGreat.K
open Go.RowKit Fl

theorem mb_false {x:SubV} (h:SubV.mb x=false):x.rs.length≤16∧x.ss.length≤8∧x.ws.length≤16:=by
 unfold SubV.mb at h
 simp only [Bool.or_eq_false_iff,decide_eq_false_iff_not] at h
 omega
theorem normed_le (ss:List SpanV):(refAllN [] (N.forms ss)).length≤ss.length:=by
 have h1:=N.refAllN_len (N.forms ss) []
 have h2:=N.forms_le ss
 simp at h1;omega
theorem check_any (x:SubV) (w:World) (h:x.At w) :
  Calls Tryz.prog 46 #[.agg #[.int .i64 x.s0,.int .i64 x.s1,.int .i64 x.s2,.slice x.ra x.rs.length x.rc,.slice x.sa x.ss.length x.sc,.slice x.wa x.ws.length x.wc]] w (Ret (.int .i64 (SubV.check x)) w):=by
 refine check_w x.s0 x.s1 x.s2 x.ra x.sa x.wa x.rs.length x.ss.length x.ws.length x.rc x.sc x.wc (refAllN [] (N.forms x.ss)) _ _ _ _ _ _ _ _ w (fun W=>numbers_any _ _ _ _ _ _ _ _ _ _ _ _ _ rfl W) (fun W=>many_any _ _ _ _ _ _ _ _ _ _ _ _ _ rfl W)
  (fun W hb=>hasNan_any _ _ _ x.rs _ W rfl (h.r.below hb) rfl) (fun W hb=>hasNan_any _ _ _ x.ws _ W rfl (h.w.below hb) rfl) (fun W hb=>hasEmpty_any _ _ _ x.ss _ W rfl (h.s.below hb) rfl)
  (fun hm W hb=>rising_any _ _ _ x.rs _ W rfl (h.r.below hb) (by have:=mb_false (x:=x) hm;omega) rfl) (fun hm W hb=>rising_any _ _ _ x.ws _ W rfl (h.w.below hb) (by have:=mb_false (x:=x) hm;omega) rfl)
  (fun hm W hb=>(N.norm_any' x.sa x.sc x.ss x.ss.length W rfl (h.s.below hb) (by have:=mb_false (x:=x) hm;omega)).mono fun e W' ⟨a,c,h1,h2,h3⟩=>⟨_,h1,⟨a,c,rfl,N.own_sat h2 (by have:=mb_false (x:=x) hm;have:=normed_le x.ss;omega)⟩,h3⟩)
  (fun v W hv hb=>?_)
 obtain ⟨a,c,rfl,hs⟩:=hv
 exact equalS_any x.sa a x.sc c _ _ x.ss (refAllN [] (N.forms x.ss)) _ W rfl rfl (h.s.below hb) hs rfl

theorem nb_true {s0 s1 s2:Int} (hv:(okN s0 1 && okN s1 1 && okN s2 0)=true):(1:Int)≤s0∧s0≤1099511627776∧(1:Int)≤s1∧s1≤1099511627776∧(0:Int)≤s2∧s2≤1099511627776:=by
 unfold okN at hv
 simp only [Bool.and_eq_true,decide_eq_true_eq] at hv
 omega

end Go.Proofs.YtdeeoddacnealaaGreat.K