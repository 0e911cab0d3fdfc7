/- The statement 'MachineSkips' of the package quilletlaw14 in its second form: for every input of bulk at most 1048576 the law returns true, and its arguments read as before. -/
import Derived.Test.YtdeeoddacnealaaGreatMZK
import Derived.Test.YtdeeoddacnealaaGreatMOX
set_option linter.unusedVariables false
namespace Go.Proofs.YtdeeoddacnealaaGreat.machineSkipsUpto
open Go.ChangeShapes Go.WideShapes Go.ChangeAt Go.RowKit

set_option maxRecDepth 100000 in
theorem contract (H:Type) (enc:TypeId×Value→H) (W:World) (base:Nat) (args:Array Value) (ds gs:List (DataW H)) (before:List MemPlace)
  (hval0:∀ (j:Nat) t v,Tryz.f7.params[j]? = some t→args[j]? = some v→Value.okWide Tryz.prog W .any base t v)
  (hW:DataW.Whole enc Tryz.prog Tryz.f7.params.toList Rows.machineSkipsSpec.vars false W args.toList ds gs before) (hk0:Rows.uptoSmall H (ds++gs)=true) :
  Calls Tryz.prog 7 args W fun e W'=>∃ v,e=.returned v∧Rows.machineSkipsSpec.post enc Tryz.prog Tryz.f7 false true false false W args v W':=by
 have hval:∀ (j:Nat) t v,Tryz.f7.params[j]? = some t→args[j]? = some v→Value.okWide Tryz.prog W .any base t v:=hval0
 have hW':=hW
 obtain ⟨p,q,hA0,hV,rfl,hfz,hnd⟩:=hW
 have hA:DataW.TrodAll enc Tryz.prog W 0 (fun _=>true) true Tryz.f7.params.toList args.toList ds p:=hA0
 rw [Tryz.params7] at hA hval
 obtain ⟨v0,vs0,d0,ds0,p0,q0,hargs,rfl,rfl,h0,r0⟩:=trodAll_cons hA
 obtain ⟨v1,vs1,d1,ds1,p1,q1,rfl,rfl,rfl,h1,r1⟩:=trodAll_cons r0
 obtain ⟨v2,vs2,d2,ds2,p2,q2,rfl,rfl,rfl,h2,r2⟩:=trodAll_cons r1
 obtain ⟨rfl,rfl,rfl⟩:=trodAll_nil r2
 obtain rfl:args = #[v0,v1,v2]:=by cases args;simp_all
 obtain ⟨rfl,rfl⟩:=trodVars_none hV
 have rd0:=h0
 have lt0:∀ x∈p0,x.block<W.heap.size:=by obtain ⟨m,hm⟩:=rd0;exact DataW.trod_lt m _ _ _ hm
 obtain ⟨a0,c0,xs0,rfl,hx0,hl0⟩:=open_kindsArg (hval 0 _ v0 rfl rfl) h0 (bulk_at hk0 (by simp))
 have rd1:=h1
 have lt1:∀ x∈p1,x.block<W.heap.size:=by obtain ⟨m,hm⟩:=rd1;exact DataW.trod_lt m _ _ _ hm
 obtain ⟨a1,c1,xs1,rfl,hx1,hl1⟩:=open_datasArg (hval 1 _ v1 rfl rfl) h1 (bulk_at hk0 (by simp))
 have rd2:=h2
 have lt2:∀ x∈p2,x.block<W.heap.size:=by obtain ⟨m,hm⟩:=rd2;exact DataW.trod_lt m _ _ _ hm
 obtain ⟨o2,rfl,ho2⟩:=open_op14Arg (hval 2 _ v2 rfl rfl) h2 (bulk_at hk0 (by simp))
 clear hA0 hval0
 refine (M.machineSkips_walk a0 c0 xs0 a1 c1 xs1 o2 W hx0 hl0 hx1 hl1 ho2).mono fun e W' ⟨he,bel⟩=>?_
 subst he
 exact ⟨_,rfl,_,_,_,[],_,[],hW',trodAll_mk1 (shut_bool Tryz.underlying4 _),(trodAll_cons_mk (Below.trod laidOut (by kernel_rfl) (of_decide_eq_true (by kernel_rfl)) rd0 bel lt0) (trodAll_cons_mk (Below.trod laidOut (by kernel_rfl) (of_decide_eq_true (by kernel_rfl)) rd1 bel lt1) (trodAll_cons_mk (Below.trod laidOut (by kernel_rfl) (of_decide_eq_true (by kernel_rfl)) rd2 bel lt2) trodAll_mk0))),rfl,bel.frame _,fun h=>by cases h⟩

set_option maxRecDepth 100000 in
theorem lifted (os:Os) (started:os.Started) (H:Type) (enc:TypeId×Value→H) (F:Stop.Interp) :
  ReturnsInHanded {} Tryz.checked os 7 .any ((Rows.OpenSpec.upto Rows.machineSkipsSpec).pre6 enc Tryz.prog Tryz.f7 Rows.machineSkipsUptoRow.domain false) (((Rows.OpenSpec.upto Rows.machineSkipsSpec).at F).post enc Tryz.prog Tryz.f7 false true false false):=by
 refine returnsInHanded_of_cond (C:=Tryz.checked) (s:=Rows.OpenSpec.upto Rows.machineSkipsSpec) (k:=Rows.uptoSmall) rfl own started (by kernel_rfl) Tryz.func7
  (OpenSpec.witness (enc:=enc) (C:=Tryz.checked) (s:=Rows.OpenSpec.upto Rows.machineSkipsSpec) (k:=Rows.uptoSmall) rfl false ⟨#[],#[.slice none 0 0,.slice none 0 0,.agg #[.int .i64 0,.int .i64 0,.int .i64 0,.slice none 0 0,.slice none 0 0,.slice none 0 0,.bool false,.int .i64 0,.slice none 0 0,.int .i64 0]],[]⟩ 8 (by kernel_rfl) (by kernel_rfl) (by kernel_rfl)
   (x:=([.nil,.nil,.agg [.agg [.lit (.int .i64 0),.lit (.int .i64 0),.lit (.int .i64 0),.nil,.nil,.nil],.lit (.bool false),.lit (.int .i64 0),.nil,.lit (.int .i64 0)]],[],[])) (by kernel_rfl) rfl (by kernel_rfl)) ?_
 intro W base args ds gs before hval hW _ hk _
 exact contract H enc W base args ds gs before hval hW hk

set_option maxRecDepth 100000 in
theorem fact0:(Rows.machineSkipsUptoRow.inPlace == Tryz.prog.inPlace 7)=true:=by kernel_rfl
set_option maxRecDepth 100000 in
theorem fact1:(Rows.machineSkipsUptoRow.unfollowed == Tryz.prog.unfollowed 7)=true:=by kernel_rfl
set_option maxRecDepth 100000 in
theorem fact2:(Rows.machineSkipsUptoRow.recurses == Tryz.prog.recurses 7)=true:=by kernel_rfl
set_option maxRecDepth 100000 in
theorem fact3:(Rows.machineSkipsUptoRow.named == Tryz.prog.varsNamed 7)=true:=by kernel_rfl
theorem over:Rows.machineSkipsUptoRow.holds Tryz.pinned (Rows.OpenSpec.upto Rows.machineSkipsSpec) :=
 OpenClaim.holds_of_cond 7 Tryz.f7 rfl rfl rfl rfl rfl rfl rfl ⟨rfl,rfl,rfl,rfl,rfl⟩ rfl rfl rfl rfl rfl (by kernel_rfl) Tryz.func7 (joined_of laidOut fact0 fact1 fact2 fact3 (by kernel_rfl))
  (of_decide_eq_true (by kernel_rfl)) (by unfold Func.isWrapper;first|(rw [if_pos (by decide +kernel)];kernel_rfl)|(rw [if_neg (by decide +kernel)];exact ⟨rfl,rfl⟩))
  (fun os started H enc _ F=>lifted os started H enc F)

theorem proved:Rows.MachineSkipsUptoSaid:=over
#print axioms proved

end Go.Proofs.YtdeeoddacnealaaGreat.machineSkipsUpto