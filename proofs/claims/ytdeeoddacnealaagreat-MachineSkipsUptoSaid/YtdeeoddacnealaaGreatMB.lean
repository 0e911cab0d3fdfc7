/- Several texts as one: B3 B4 R6 R7 R8 B5 B6 G1. -/
import Derived.Test.YtdeeoddacnealaaGreatMBB
import Derived.Test.YtdeeoddacnealaaGreatMNL
import Derived.Test.YtdeeoddacnealaaGreatMR
import Derived.Test.YtdeeoddacnealaaGreatMC0
set_option linter.unusedVariables false
set_option linter.unusedSimpArgs false
namespace Go.Proofs.YtdeeoddacnealaaGreat
open Go.RowKit Fl

set_option maxRecDepth 100000 in
theorem join_ssA (lo hi lo' hi':Nat) (a b a' b':Bool) (w:World) (hl:lo<2 ^ 64) (hh:hi<2 ^ 64) (hl':lo'<2 ^ 64) (hh':hi'<2 ^ 64) (l h:Key) (hr:Hid (canonS lo hi a b=some (l,h))) (l' h':Key) (hr':Hid (canonS lo' hi' a' b'=some (l',h'))) (F1:flt (knext h).bits l'.bits=true) :
  Calls Tryz.prog 186 #[.agg #[.float .f64 lo,.float .f64 hi,.bool a,.bool b],.agg #[.float .f64 lo',.float .f64 hi',.bool a',.bool b']] w (Ret (.tuple #[.agg #[.float .f64 0,.float .f64 0,.bool true,.bool true],.bool false]) w):=by
 go_enter Tryz.func186,Tryz.ntmps186
 go_wp2_with fail
 (refine wp_region_ext_tail 4 (by kernel_rfl) (by kernel_rfl) (by kernel_rfl) ?_;simp only [List.take_succ_cons,List.take_zero,List.drop_succ_cons,List.drop_zero];(repeat (go_big_quiet_step (first|(go_at_call 181;with_reducible exact Calls.ext_of (canon_isS lo hi a b l h _ hl hh hr))|(go_at_call 181;with_reducible exact Calls.ext_of (canon_isS lo' hi' a' b' l' h' _ hl' hh' hr')))));refine mX ?_;intro w1 hb1 hc1 hf1 hz1;intros)
 (have cc1_0_0:=hc1 (w.heap.size) 0 lt_auto;have cf1_0_0:=hf1 (w.heap.size) 0 lt_auto;have cc1_0_1:=hc1 (w.heap.size) 1 lt_auto;have cf1_0_1:=hf1 (w.heap.size) 1 lt_auto;have cc1_0_2:=hc1 (w.heap.size) 2 lt_auto;have cf1_0_2:=hf1 (w.heap.size) 2 lt_auto;have cc1_0_3:=hc1 (w.heap.size) 3 lt_auto;have cf1_0_3:=hf1 (w.heap.size) 3 lt_auto;have cc1_1_0:=hc1 (w.heap.size+1) 0 lt_auto;have cf1_1_0:=hf1 (w.heap.size+1) 0 lt_auto;have cc1_1_1:=hc1 (w.heap.size+1) 1 lt_auto;have cf1_1_1:=hf1 (w.heap.size+1) 1 lt_auto;have cc1_1_2:=hc1 (w.heap.size+1) 2 lt_auto;have cf1_1_2:=hf1 (w.heap.size+1) 2 lt_auto;have cc1_1_3:=hc1 (w.heap.size+1) 3 lt_auto;have cf1_1_3:=hf1 (w.heap.size+1) 3 lt_auto;have cc1_2_0:=hc1 (w.heap.size+1+1) 0 lt_auto;have cf1_2_0:=hf1 (w.heap.size+1+1) 0 lt_auto;have cc1_2_1:=hc1 (w.heap.size+1+1) 1 lt_auto;have cf1_2_1:=hf1 (w.heap.size+1+1) 1 lt_auto;have cc1_2_2:=hc1 (w.heap.size+1+1) 2 lt_auto;have cf1_2_2:=hf1 (w.heap.size+1+1) 2 lt_auto;have cc1_2_3:=hc1 (w.heap.size+1+1) 3 lt_auto;have cf1_2_3:=hf1 (w.heap.size+1+1) 3 lt_auto;clear hc1 hf1;simp [go_sem] at cc1_0_0 cf1_0_0 cc1_0_1 cf1_0_1 cc1_0_2 cf1_0_2 cc1_0_3 cf1_0_3 cc1_1_0 cf1_1_0 cc1_1_1 cf1_1_1 cc1_1_2 cf1_1_2 cc1_1_3 cf1_1_3 cc1_2_0 cf1_2_0 cc1_2_1 cf1_2_1 cc1_2_2 cf1_2_2 cc1_2_3 cf1_2_3)
 go_wp2_with fail
 (generalize hW2:World.setCell _ _ _=w2;have hB2:Below w.heap.size w w2:=(by rw [←hW2];exact below_auto);have hS2:=congrArg (fun W=>W.heap.size) hW2.symm;simp [go_sem] at hS2;have cc2_0_0:=congrArg (fun W=>W.cell? ⟨w.heap.size,0,none⟩) hW2.symm;have cf2_0_0:=congrArg (fun W=>W.frozen? ⟨w.heap.size,0,none⟩) hW2.symm;have cc2_0_1:=congrArg (fun W=>W.cell? ⟨w.heap.size,1,none⟩) hW2.symm;have cf2_0_1:=congrArg (fun W=>W.frozen? ⟨w.heap.size,1,none⟩) hW2.symm;have cc2_0_2:=congrArg (fun W=>W.cell? ⟨w.heap.size,2,none⟩) hW2.symm;have cf2_0_2:=congrArg (fun W=>W.frozen? ⟨w.heap.size,2,none⟩) hW2.symm;have cc2_0_3:=congrArg (fun W=>W.cell? ⟨w.heap.size,3,none⟩) hW2.symm;have cf2_0_3:=congrArg (fun W=>W.frozen? ⟨w.heap.size,3,none⟩) hW2.symm;have cc2_1_0:=congrArg (fun W=>W.cell? ⟨w.heap.size+1,0,none⟩) hW2.symm;have cf2_1_0:=congrArg (fun W=>W.frozen? ⟨w.heap.size+1,0,none⟩) hW2.symm;have cc2_1_1:=congrArg (fun W=>W.cell? ⟨w.heap.size+1,1,none⟩) hW2.symm;have cf2_1_1:=congrArg (fun W=>W.frozen? ⟨w.heap.size+1,1,none⟩) hW2.symm;have cc2_1_2:=congrArg (fun W=>W.cell? ⟨w.heap.size+1,2,none⟩) hW2.symm;have cf2_1_2:=congrArg (fun W=>W.frozen? ⟨w.heap.size+1,2,none⟩) hW2.symm;have cc2_1_3:=congrArg (fun W=>W.cell? ⟨w.heap.size+1,3,none⟩) hW2.symm;have cf2_1_3:=congrArg (fun W=>W.frozen? ⟨w.heap.size+1,3,none⟩) hW2.symm;have cc2_2_0:=congrArg (fun W=>W.cell? ⟨w.heap.size+1+1,0,none⟩) hW2.symm;have cf2_2_0:=congrArg (fun W=>W.frozen? ⟨w.heap.size+1+1,0,none⟩) hW2.symm;have cc2_2_1:=congrArg (fun W=>W.cell? ⟨w.heap.size+1+1,1,none⟩) hW2.symm;have cf2_2_1:=congrArg (fun W=>W.frozen? ⟨w.heap.size+1+1,1,none⟩) hW2.symm;have cc2_2_2:=congrArg (fun W=>W.cell? ⟨w.heap.size+1+1,2,none⟩) hW2.symm;have cf2_2_2:=congrArg (fun W=>W.frozen? ⟨w.heap.size+1+1,2,none⟩) hW2.symm;have cc2_2_3:=congrArg (fun W=>W.cell? ⟨w.heap.size+1+1,3,none⟩) hW2.symm;have cf2_2_3:=congrArg (fun W=>W.frozen? ⟨w.heap.size+1+1,3,none⟩) hW2.symm;clear hW2;simp [go_sem, *] at cc2_0_0;simp [go_sem, *] at cf2_0_0;simp [go_sem, *] at cc2_0_1;simp [go_sem, *] at cf2_0_1;simp [go_sem, *] at cc2_0_2;simp [go_sem, *] at cf2_0_2;simp [go_sem, *] at cc2_0_3;simp [go_sem, *] at cf2_0_3;simp [go_sem, *] at cc2_1_0;simp [go_sem, *] at cf2_1_0;simp [go_sem, *] at cc2_1_1;simp [go_sem, *] at cf2_1_1;simp [go_sem, *] at cc2_1_2;simp [go_sem, *] at cf2_1_2;simp [go_sem, *] at cc2_1_3;simp [go_sem, *] at cf2_1_3;simp [go_sem, *] at cc2_2_0;simp [go_sem, *] at cf2_2_0;simp [go_sem, *] at cc2_2_1;simp [go_sem, *] at cf2_2_1;simp [go_sem, *] at cc2_2_2;simp [go_sem, *] at cf2_2_2;simp [go_sem, *] at cc2_2_3;simp [go_sem, *] at cf2_2_3;(try have hw2_0:w.heap.size<w2.heap.size:=by omega);(try have hw2_1:w.heap.size+1<w2.heap.size:=by omega);(try have hw2_2:w.heap.size+1+1<w2.heap.size:=by omega);(try have hw2_3:w.heap.size+1+1+1<w2.heap.size:=by omega);clear hS2;(try clear hb1);(try clear hz1);(try clear hB1);(try clear cc1_0_0);(try clear cf1_0_0);(try clear cc1_0_1);(try clear cf1_0_1);(try clear cc1_0_2);(try clear cf1_0_2);(try clear cc1_0_3);(try clear cf1_0_3);(try clear cc1_1_0);(try clear cf1_1_0);(try clear cc1_1_1);(try clear cf1_1_1);(try clear cc1_1_2);(try clear cf1_1_2);(try clear cc1_1_3);(try clear cf1_1_3);(try clear cc1_2_0);(try clear cf1_2_0);(try clear cc1_2_1);(try clear cf1_2_1);(try clear cc1_2_2);(try clear cf1_2_2);(try clear cc1_2_3);(try clear cf1_2_3);(try clear hy1_0);(try clear hx1_0);(try clear hw1_0);(try clear hy1_1);(try clear hx1_1);(try clear hw1_1);(try clear hy1_2);(try clear hx1_2);(try clear hw1_2);(try clear hy1_3);(try clear hx1_3);(try clear hw1_3))
 (refine wp_region_ext (by kernel_rfl) (by kernel_rfl) ?_;(repeat (go_big_quiet_step (first|(go_at_call 220;with_reducible exact Calls.ext_same (next_any _ _)))));refine mX ?_;intro w3 hb3 hc3 hf3 hz3;intros)
 go_wp2_with (go_at_call 219;with_reducible refine mQ (noneV_any _) ?_;intro w4 hb4 hc4 hf4 hz4;intros)
 exact bodyPost_ret (v:=.tuple #[.agg #[.float .f64 0,.float .f64 0,.bool true,.bool true],.bool false]) (by simp [results,Tryz.results186,go_sem, *]) rfl ⟨rfl,by exact below_auto⟩

set_option maxRecDepth 100000 in
theorem join_ssC (lo hi lo' hi':Nat) (a b a' b':Bool) (w:World) (hl:lo<2 ^ 64) (hh:hi<2 ^ 64) (hl':lo'<2 ^ 64) (hh':hi'<2 ^ 64) (l h:Key) (hr:Hid (canonS lo hi a b=some (l,h))) (l' h':Key) (hr':Hid (canonS lo' hi' a' b'=some (l',h'))) (F1:flt (knext h).bits l'.bits=false) (F2:flt (knext h').bits l.bits=false) :
  Calls Tryz.prog 186 #[.agg #[.float .f64 lo,.float .f64 hi,.bool a,.bool b],.agg #[.float .f64 lo',.float .f64 hi',.bool a',.bool b']] w (Ret (.tuple #[.agg #[.float .f64 (kLeast l l').bits,.float .f64 (kMost h h').bits,.bool false,.bool false],.bool true]) w):=by
 go_enter Tryz.func186,Tryz.ntmps186
 go_wp2_with fail
 (refine wp_region_ext_tail 4 (by kernel_rfl) (by kernel_rfl) (by kernel_rfl) ?_;simp only [List.take_succ_cons,List.take_zero,List.drop_succ_cons,List.drop_zero];(repeat (go_big_quiet_step (first|(go_at_call 181;with_reducible exact Calls.ext_of (canon_isS lo hi a b l h _ hl hh hr))|(go_at_call 181;with_reducible exact Calls.ext_of (canon_isS lo' hi' a' b' l' h' _ hl' hh' hr')))));refine mX ?_;intro w1 hb1 hc1 hf1 hz1;intros)
 (have cc1_0_0:=hc1 (w.heap.size) 0 lt_auto;have cf1_0_0:=hf1 (w.heap.size) 0 lt_auto;have cc1_0_1:=hc1 (w.heap.size) 1 lt_auto;have cf1_0_1:=hf1 (w.heap.size) 1 lt_auto;have cc1_0_2:=hc1 (w.heap.size) 2 lt_auto;have cf1_0_2:=hf1 (w.heap.size) 2 lt_auto;have cc1_0_3:=hc1 (w.heap.size) 3 lt_auto;have cf1_0_3:=hf1 (w.heap.size) 3 lt_auto;have cc1_1_0:=hc1 (w.heap.size+1) 0 lt_auto;have cf1_1_0:=hf1 (w.heap.size+1) 0 lt_auto;have cc1_1_1:=hc1 (w.heap.size+1) 1 lt_auto;have cf1_1_1:=hf1 (w.heap.size+1) 1 lt_auto;have cc1_1_2:=hc1 (w.heap.size+1) 2 lt_auto;have cf1_1_2:=hf1 (w.heap.size+1) 2 lt_auto;have cc1_1_3:=hc1 (w.heap.size+1) 3 lt_auto;have cf1_1_3:=hf1 (w.heap.size+1) 3 lt_auto;have cc1_2_0:=hc1 (w.heap.size+1+1) 0 lt_auto;have cf1_2_0:=hf1 (w.heap.size+1+1) 0 lt_auto;have cc1_2_1:=hc1 (w.heap.size+1+1) 1 lt_auto;have cf1_2_1:=hf1 (w.heap.size+1+1) 1 lt_auto;have cc1_2_2:=hc1 (w.heap.size+1+1) 2 lt_auto;have cf1_2_2:=hf1 (w.heap.size+1+1) 2 lt_auto;have cc1_2_3:=hc1 (w.heap.size+1+1) 3 lt_auto;have cf1_2_3:=hf1 (w.heap.size+1+1) 3 lt_auto;clear hc1 hf1;simp [go_sem] at cc1_0_0 cf1_0_0 cc1_0_1 cf1_0_1 cc1_0_2 cf1_0_2 cc1_0_3 cf1_0_3 cc1_1_0 cf1_1_0 cc1_1_1 cf1_1_1 cc1_1_2 cf1_1_2 cc1_1_3 cf1_1_3 cc1_2_0 cf1_2_0 cc1_2_1 cf1_2_1 cc1_2_2 cf1_2_2 cc1_2_3 cf1_2_3)
 go_wp2_with fail
 (generalize hW2:World.setCell _ _ _=w2;have hB2:Below w.heap.size w w2:=(by rw [←hW2];exact below_auto);have hS2:=congrArg (fun W=>W.heap.size) hW2.symm;simp [go_sem] at hS2;have cc2_0_0:=congrArg (fun W=>W.cell? ⟨w.heap.size,0,none⟩) hW2.symm;have cf2_0_0:=congrArg (fun W=>W.frozen? ⟨w.heap.size,0,none⟩) hW2.symm;have cc2_0_1:=congrArg (fun W=>W.cell? ⟨w.heap.size,1,none⟩) hW2.symm;have cf2_0_1:=congrArg (fun W=>W.frozen? ⟨w.heap.size,1,none⟩) hW2.symm;have cc2_0_2:=congrArg (fun W=>W.cell? ⟨w.heap.size,2,none⟩) hW2.symm;have cf2_0_2:=congrArg (fun W=>W.frozen? ⟨w.heap.size,2,none⟩) hW2.symm;have cc2_0_3:=congrArg (fun W=>W.cell? ⟨w.heap.size,3,none⟩) hW2.symm;have cf2_0_3:=congrArg (fun W=>W.frozen? ⟨w.heap.size,3,none⟩) hW2.symm;have cc2_1_0:=congrArg (fun W=>W.cell? ⟨w.heap.size+1,0,none⟩) hW2.symm;have cf2_1_0:=congrArg (fun W=>W.frozen? ⟨w.heap.size+1,0,none⟩) hW2.symm;have cc2_1_1:=congrArg (fun W=>W.cell? ⟨w.heap.size+1,1,none⟩) hW2.symm;have cf2_1_1:=congrArg (fun W=>W.frozen? ⟨w.heap.size+1,1,none⟩) hW2.symm;have cc2_1_2:=congrArg (fun W=>W.cell? ⟨w.heap.size+1,2,none⟩) hW2.symm;have cf2_1_2:=congrArg (fun W=>W.frozen? ⟨w.heap.size+1,2,none⟩) hW2.symm;have cc2_1_3:=congrArg (fun W=>W.cell? ⟨w.heap.size+1,3,none⟩) hW2.symm;have cf2_1_3:=congrArg (fun W=>W.frozen? ⟨w.heap.size+1,3,none⟩) hW2.symm;have cc2_2_0:=congrArg (fun W=>W.cell? ⟨w.heap.size+1+1,0,none⟩) hW2.symm;have cf2_2_0:=congrArg (fun W=>W.frozen? ⟨w.heap.size+1+1,0,none⟩) hW2.symm;have cc2_2_1:=congrArg (fun W=>W.cell? ⟨w.heap.size+1+1,1,none⟩) hW2.symm;have cf2_2_1:=congrArg (fun W=>W.frozen? ⟨w.heap.size+1+1,1,none⟩) hW2.symm;have cc2_2_2:=congrArg (fun W=>W.cell? ⟨w.heap.size+1+1,2,none⟩) hW2.symm;have cf2_2_2:=congrArg (fun W=>W.frozen? ⟨w.heap.size+1+1,2,none⟩) hW2.symm;have cc2_2_3:=congrArg (fun W=>W.cell? ⟨w.heap.size+1+1,3,none⟩) hW2.symm;have cf2_2_3:=congrArg (fun W=>W.frozen? ⟨w.heap.size+1+1,3,none⟩) hW2.symm;clear hW2;simp [go_sem, *] at cc2_0_0;simp [go_sem, *] at cf2_0_0;simp [go_sem, *] at cc2_0_1;simp [go_sem, *] at cf2_0_1;simp [go_sem, *] at cc2_0_2;simp [go_sem, *] at cf2_0_2;simp [go_sem, *] at cc2_0_3;simp [go_sem, *] at cf2_0_3;simp [go_sem, *] at cc2_1_0;simp [go_sem, *] at cf2_1_0;simp [go_sem, *] at cc2_1_1;simp [go_sem, *] at cf2_1_1;simp [go_sem, *] at cc2_1_2;simp [go_sem, *] at cf2_1_2;simp [go_sem, *] at cc2_1_3;simp [go_sem, *] at cf2_1_3;simp [go_sem, *] at cc2_2_0;simp [go_sem, *] at cf2_2_0;simp [go_sem, *] at cc2_2_1;simp [go_sem, *] at cf2_2_1;simp [go_sem, *] at cc2_2_2;simp [go_sem, *] at cf2_2_2;simp [go_sem, *] at cc2_2_3;simp [go_sem, *] at cf2_2_3;(try have hw2_0:w.heap.size<w2.heap.size:=by omega);(try have hw2_1:w.heap.size+1<w2.heap.size:=by omega);(try have hw2_2:w.heap.size+1+1<w2.heap.size:=by omega);(try have hw2_3:w.heap.size+1+1+1<w2.heap.size:=by omega);clear hS2;(try clear hb1);(try clear hz1);(try clear hB1);(try clear cc1_0_0);(try clear cf1_0_0);(try clear cc1_0_1);(try clear cf1_0_1);(try clear cc1_0_2);(try clear cf1_0_2);(try clear cc1_0_3);(try clear cf1_0_3);(try clear cc1_1_0);(try clear cf1_1_0);(try clear cc1_1_1);(try clear cf1_1_1);(try clear cc1_1_2);(try clear cf1_1_2);(try clear cc1_1_3);(try clear cf1_1_3);(try clear cc1_2_0);(try clear cf1_2_0);(try clear cc1_2_1);(try clear cf1_2_1);(try clear cc1_2_2);(try clear cf1_2_2);(try clear cc1_2_3);(try clear cf1_2_3);(try clear hy1_0);(try clear hx1_0);(try clear hw1_0);(try clear hy1_1);(try clear hx1_1);(try clear hw1_1);(try clear hy1_2);(try clear hx1_2);(try clear hw1_2);(try clear hy1_3);(try clear hx1_3);(try clear hw1_3))
 (refine wp_region_ext (by kernel_rfl) (by kernel_rfl) ?_;(repeat (go_big_quiet_step (first|(go_at_call 220;with_reducible exact Calls.ext_same (next_any _ _)))));refine mX ?_;intro w3 hb3 hc3 hf3 hz3;intros)
 go_wp2_with fail
 refine wp_region_notes [Note.val (.pointer (some ⟨w.heap.size,0,none⟩)),Note.val (.float .f64 l.bits),Note.val (.pointer (some ⟨w.heap.size+1,0,none⟩)),Note.val (.float .f64 l'.bits),Note.slc 2 2 [.float .f64 l.bits,.float .f64 l'.bits],Note.val (.float .f64 (kLeast l l').bits),Note.val (.pointer (some ⟨w.heap.size,1,none⟩)),Note.val (.float .f64 h.bits),Note.val (.pointer (some ⟨w.heap.size+1,1,none⟩)),Note.val (.float .f64 h'.bits),Note.slc 2 2 [.float .f64 h.bits,.float .f64 h'.bits],Note.val (.float .f64 (kMost h h').bits),Note.val (.agg #[.float .f64 (kLeast l l').bits,.float .f64 (kMost h h').bits,.bool false,.bool false])] rfl (by kernel_rfl) (by kernel_rfl) ?_ ?_
 ·simp only [List.length_cons,List.length_nil,Nat.reduceAdd,List.take_succ_cons,List.take_zero,StepsN,List.nil_append,List.cons_append]
  refine ⟨?_,?_,?_,?_,?_,?_,?_,?_,?_,?_,?_,?_,?_,trivial⟩
  ·intro u w4 hb4 hd
   refine mB hb4 ?_;intro hc4 hf4 hz4;intros
   refine mH ?_;clear hd
   ((try simp only [forall_exists_index,and_imp]);intros)
   clear u
   go_wp2_with (first|(go_at_call 228;(with_reducible refine (most_two h h' _ _ _ (by assumption) (by assumption)).mono ?_);rintro e wy ⟨rfl,rfl⟩)|(go_at_call 227;(with_reducible refine (least_two l l' _ _ _ (by assumption) (by assumption)).mono ?_);rintro e wy ⟨rfl,rfl⟩))
   exact ⟨rfl,by exact below_auto,rfl⟩
  ·intro u w4 hb4 hd
   refine mB hb4 ?_;intro hc4 hf4 hz4;intros
   refine mH ?_;clear hd
   generalize u 0=u0
   ((try simp only [forall_exists_index,and_imp]);intros)
   (try subst u0)
   clear u
   go_wp2_with (first|(go_at_call 228;(with_reducible refine (most_two h h' _ _ _ (by assumption) (by assumption)).mono ?_);rintro e wy ⟨rfl,rfl⟩)|(go_at_call 227;(with_reducible refine (least_two l l' _ _ _ (by assumption) (by assumption)).mono ?_);rintro e wy ⟨rfl,rfl⟩))
   exact ⟨rfl,by exact below_auto,rfl⟩
  ·intro u w4 hb4 hd
   refine mB hb4 ?_;intro hc4 hf4 hz4;intros
   refine mH ?_;clear hd
   generalize u 0=u0
   generalize u 1=u1
   ((try simp only [forall_exists_index,and_imp]);intros)
   (try subst u0)
   (try subst u1)
   clear u
   go_wp2_with (first|(go_at_call 228;(with_reducible refine (most_two h h' _ _ _ (by assumption) (by assumption)).mono ?_);rintro e wy ⟨rfl,rfl⟩)|(go_at_call 227;(with_reducible refine (least_two l l' _ _ _ (by assumption) (by assumption)).mono ?_);rintro e wy ⟨rfl,rfl⟩))
   exact ⟨rfl,by exact below_auto,rfl⟩
  ·intro u w4 hb4 hd
   refine mB hb4 ?_;intro hc4 hf4 hz4;intros
   refine mH ?_;clear hd
   generalize u 0=u0
   generalize u 1=u1
   generalize u 2=u2
   ((try simp only [forall_exists_index,and_imp]);intros)
   (try subst u0)
   (try subst u1)
   (try subst u2)
   clear u
   go_wp2_with (first|(go_at_call 228;(with_reducible refine (most_two h h' _ _ _ (by assumption) (by assumption)).mono ?_);rintro e wy ⟨rfl,rfl⟩)|(go_at_call 227;(with_reducible refine (least_two l l' _ _ _ (by assumption) (by assumption)).mono ?_);rintro e wy ⟨rfl,rfl⟩))
   exact ⟨rfl,by exact below_auto,rfl⟩
  ·intro u w4 hb4 hd
   refine mB hb4 ?_;intro hc4 hf4 hz4;intros
   refine mH ?_;clear hd
   generalize u 0=u0
   generalize u 1=u1
   generalize u 2=u2
   generalize u 3=u3
   ((try simp only [forall_exists_index,and_imp]);intros)
   (try subst u0)
   (try subst u1)
   (try subst u2)
   (try subst u3)
   clear u
   go_wp2_with (first|(go_at_call 228;(with_reducible refine (most_two h h' _ _ _ (by assumption) (by assumption)).mono ?_);rintro e wy ⟨rfl,rfl⟩)|(go_at_call 227;(with_reducible refine (least_two l l' _ _ _ (by assumption) (by assumption)).mono ?_);rintro e wy ⟨rfl,rfl⟩))
   exact ⟨rfl,by exact below_auto,w4.heap.size,rfl,Nat.le_refl _,by simp,by simp [cellsAre,go_sem]⟩
  ·intro u w4 hb4 hd
   refine mB hb4 ?_;intro hc4 hf4 hz4;intros
   refine mH ?_;clear hd
   generalize u 0=u0
   generalize u 1=u1
   generalize u 2=u2
   generalize u 3=u3
   generalize u 4=u4
   ((try simp only [forall_exists_index,and_imp]);intros)
   (try subst u0)
   (try subst u1)
   (try subst u2)
   (try subst u3)
   (try subst u4)
   clear u
   go_wp2_with (first|(go_at_call 228;(with_reducible refine (most_two h h' _ _ _ (by assumption) (by assumption)).mono ?_);rintro e wy ⟨rfl,rfl⟩)|(go_at_call 227;(with_reducible refine (least_two l l' _ _ _ (by assumption) (by assumption)).mono ?_);rintro e wy ⟨rfl,rfl⟩))
   exact ⟨rfl,by exact below_auto,rfl⟩
  ·intro u w4 hb4 hd
   refine mB hb4 ?_;intro hc4 hf4 hz4;intros
   refine mH ?_;clear hd
   generalize u 0=u0
   generalize u 1=u1
   generalize u 2=u2
   generalize u 3=u3
   generalize u 4=u4
   generalize u 5=u5
   ((try simp only [forall_exists_index,and_imp]);intros)
   (try subst u0)
   (try subst u1)
   (try subst u2)
   (try subst u3)
   (try subst u4)
   (try subst u5)
   clear u
   go_wp2_with (first|(go_at_call 228;(with_reducible refine (most_two h h' _ _ _ (by assumption) (by assumption)).mono ?_);rintro e wy ⟨rfl,rfl⟩)|(go_at_call 227;(with_reducible refine (least_two l l' _ _ _ (by assumption) (by assumption)).mono ?_);rintro e wy ⟨rfl,rfl⟩))
   exact ⟨rfl,by exact below_auto,rfl⟩
  ·intro u w4 hb4 hd
   refine mB hb4 ?_;intro hc4 hf4 hz4;intros
   refine mH ?_;clear hd
   generalize u 0=u0
   generalize u 1=u1
   generalize u 2=u2
   generalize u 3=u3
   generalize u 4=u4
   generalize u 5=u5
   generalize u 6=u6
   ((try simp only [forall_exists_index,and_imp]);intros)
   (try subst u0)
   (try subst u1)
   (try subst u2)
   (try subst u3)
   (try subst u4)
   (try subst u5)
   (try subst u6)
   clear u
   go_wp2_with (first|(go_at_call 228;(with_reducible refine (most_two h h' _ _ _ (by assumption) (by assumption)).mono ?_);rintro e wy ⟨rfl,rfl⟩)|(go_at_call 227;(with_reducible refine (least_two l l' _ _ _ (by assumption) (by assumption)).mono ?_);rintro e wy ⟨rfl,rfl⟩))
   exact ⟨rfl,by exact below_auto,rfl⟩
  ·intro u w4 hb4 hd
   refine mB hb4 ?_;intro hc4 hf4 hz4;intros
   refine mH ?_;clear hd
   generalize u 0=u0
   generalize u 1=u1
   generalize u 2=u2
   generalize u 3=u3
   generalize u 4=u4
   generalize u 5=u5
   generalize u 6=u6
   generalize u 7=u7
   ((try simp only [forall_exists_index,and_imp]);intros)
   (try subst u0)
   (try subst u1)
   (try subst u2)
   (try subst u3)
   (try subst u4)
   (try subst u5)
   (try subst u6)
   (try subst u7)
   clear u
   go_wp2_with (first|(go_at_call 228;(with_reducible refine (most_two h h' _ _ _ (by assumption) (by assumption)).mono ?_);rintro e wy ⟨rfl,rfl⟩)|(go_at_call 227;(with_reducible refine (least_two l l' _ _ _ (by assumption) (by assumption)).mono ?_);rintro e wy ⟨rfl,rfl⟩))
   exact ⟨rfl,by exact below_auto,rfl⟩
  ·intro u w4 hb4 hd
   refine mB hb4 ?_;intro hc4 hf4 hz4;intros
   refine mH ?_;clear hd
   generalize u 0=u0
   generalize u 1=u1
   generalize u 2=u2
   generalize u 3=u3
   generalize u 4=u4
   generalize u 5=u5
   generalize u 6=u6
   generalize u 7=u7
   generalize u 8=u8
   ((try simp only [forall_exists_index,and_imp]);intros)
   (try subst u0)
   (try subst u1)
   (try subst u2)
   (try subst u3)
   (try subst u4)
   (try subst u5)
   (try subst u6)
   (try subst u7)
   (try subst u8)
   clear u
   go_wp2_with (first|(go_at_call 228;(with_reducible refine (most_two h h' _ _ _ (by assumption) (by assumption)).mono ?_);rintro e wy ⟨rfl,rfl⟩)|(go_at_call 227;(with_reducible refine (least_two l l' _ _ _ (by assumption) (by assumption)).mono ?_);rintro e wy ⟨rfl,rfl⟩))
   exact ⟨rfl,by exact below_auto,rfl⟩
  ·intro u w4 hb4 hd
   refine mB hb4 ?_;intro hc4 hf4 hz4;intros
   refine mH ?_;clear hd
   generalize u 0=u0
   generalize u 1=u1
   generalize u 2=u2
   generalize u 3=u3
   generalize u 4=u4
   generalize u 5=u5
   generalize u 6=u6
   generalize u 7=u7
   generalize u 8=u8
   generalize u 9=u9
   ((try simp only [forall_exists_index,and_imp]);intros)
   (try subst u0)
   (try subst u1)
   (try subst u2)
   (try subst u3)
   (try subst u4)
   (try subst u5)
   (try subst u6)
   (try subst u7)
   (try subst u8)
   (try subst u9)
   clear u
   go_wp2_with (first|(go_at_call 228;(with_reducible refine (most_two h h' _ _ _ (by assumption) (by assumption)).mono ?_);rintro e wy ⟨rfl,rfl⟩)|(go_at_call 227;(with_reducible refine (least_two l l' _ _ _ (by assumption) (by assumption)).mono ?_);rintro e wy ⟨rfl,rfl⟩))
   exact ⟨rfl,by exact below_auto,w4.heap.size,rfl,Nat.le_refl _,by simp,by simp [cellsAre,go_sem]⟩
  ·intro u w4 hb4 hd
   refine mB hb4 ?_;intro hc4 hf4 hz4;intros
   refine mH ?_;clear hd
   generalize u 0=u0
   generalize u 1=u1
   generalize u 2=u2
   generalize u 3=u3
   generalize u 4=u4
   generalize u 5=u5
   generalize u 6=u6
   generalize u 7=u7
   generalize u 8=u8
   generalize u 9=u9
   generalize u 10=u10
   ((try simp only [forall_exists_index,and_imp]);intros)
   (try subst u0)
   (try subst u1)
   (try subst u2)
   (try subst u3)
   (try subst u4)
   (try subst u5)
   (try subst u6)
   (try subst u7)
   (try subst u8)
   (try subst u9)
   (try subst u10)
   clear u
   go_wp2_with (first|(go_at_call 228;(with_reducible refine (most_two h h' _ _ _ (by assumption) (by assumption)).mono ?_);rintro e wy ⟨rfl,rfl⟩)|(go_at_call 227;(with_reducible refine (least_two l l' _ _ _ (by assumption) (by assumption)).mono ?_);rintro e wy ⟨rfl,rfl⟩))
   exact ⟨rfl,by exact below_auto,rfl⟩
  ·intro u w4 hb4 hd
   refine mB hb4 ?_;intro hc4 hf4 hz4;intros
   refine mH ?_;clear hd
   generalize u 0=u0
   generalize u 1=u1
   generalize u 2=u2
   generalize u 3=u3
   generalize u 4=u4
   generalize u 5=u5
   generalize u 6=u6
   generalize u 7=u7
   generalize u 8=u8
   generalize u 9=u9
   generalize u 10=u10
   generalize u 11=u11
   ((try simp only [forall_exists_index,and_imp]);intros)
   (try subst u0)
   (try subst u1)
   (try subst u2)
   (try subst u3)
   (try subst u4)
   (try subst u5)
   (try subst u6)
   (try subst u7)
   (try subst u8)
   (try subst u9)
   (try subst u10)
   (try subst u11)
   clear u
   go_wp2_with (first|(go_at_call 228;(with_reducible refine (most_two h h' _ _ _ (by assumption) (by assumption)).mono ?_);rintro e wy ⟨rfl,rfl⟩)|(go_at_call 227;(with_reducible refine (least_two l l' _ _ _ (by assumption) (by assumption)).mono ?_);rintro e wy ⟨rfl,rfl⟩))
   exact ⟨rfl,by exact below_auto,rfl⟩
 ·intro u w4 hb4 hph hap
  refine mB hb4 ?_;intro hc4 hf4 hz4;intros
  have hp0:=hph 0 (by simp)
  have hp1:=hph 1 (by simp)
  have hp2:=hph 2 (by simp)
  have hp3:=hph 3 (by simp)
  have hp4:=hph 4 (by simp)
  have hp5:=hph 5 (by simp)
  have hp6:=hph 6 (by simp)
  have hp7:=hph 7 (by simp)
  have hp8:=hph 8 (by simp)
  have hp9:=hph 9 (by simp)
  have hp10:=hph 10 (by simp)
  have hp11:=hph 11 (by simp)
  have hp12:=hph 12 (by simp)
  have ha4_10:=hap 4 10 (by simp) (by simp) (by decide) rfl rfl
  have ha10_4:=hap 10 4 (by simp) (by simp) (by decide) rfl rfl
  clear hph hap
  refine mP ?_
  generalize u 0=u0 at *
  generalize u 1=u1 at *
  generalize u 2=u2 at *
  generalize u 3=u3 at *
  generalize u 4=u4 at *
  generalize u 5=u5 at *
  generalize u 6=u6 at *
  generalize u 7=u7 at *
  generalize u 8=u8 at *
  generalize u 9=u9 at *
  generalize u 10=u10 at *
  generalize u 11=u11 at *
  generalize u 12=u12 at *
  clear u
  cases hp0
  cases hp1
  cases hp2
  cases hp3
  obtain ⟨B4,rfl,hl4,hg4,hs4⟩:=hp4
  (try simp only [cellsAre,and_true] at hs4)
  cases hp5
  cases hp6
  cases hp7
  cases hp8
  cases hp9
  obtain ⟨B10,rfl,hl10,hg10,hs10⟩:=hp10
  (try simp only [cellsAre,and_true] at hs10)
  cases hp11
  cases hp12
  simp only [blkOf,ne_eq,Option.some.injEq] at ha4_10
  simp only [blkOf,ne_eq,Option.some.injEq] at ha10_4
  go_wp2_with fail
  exact bodyPost_ret (v:=.tuple #[.agg #[.float .f64 (kLeast l l').bits,.float .f64 (kMost h h').bits,.bool false,.bool false],.bool true]) (by simp [results,Tryz.results186,go_sem, *]) rfl ⟨rfl,by exact below_auto⟩

theorem kMost_v (k l:Key):(kMost k l).v=if k.v<l.v then l.v else k.v:=by unfold kMost;split <;> rfl
theorem kLeast_v (k l:Key):(kLeast k l).v=if l.v<k.v then l.v else k.v:=by unfold kLeast;split <;> rfl

attribute [go_sem] isNaN_slo isNaN_shi

end Go.Proofs.YtdeeoddacnealaaGreat