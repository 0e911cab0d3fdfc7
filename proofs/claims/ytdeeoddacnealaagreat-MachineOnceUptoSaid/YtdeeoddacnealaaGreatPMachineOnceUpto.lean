/- The statement 'MachineOnce' of the package quilletlaw14 in its second form: for every input of bulk at most 1048576 the law returns true, and its arguments read as before. -/
import Derived.Test.YtdeeoddacnealaaGreatMZD
import Derived.Test.YtdeeoddacnealaaGreatMOX
set_option linter.unusedVariables false
namespace Go.Proofs.YtdeeoddacnealaaGreat.machineOnceUpto
open Go.ChangeShapes Go.WideShapes Go.ChangeAt Go.RowKit

set_option maxRecDepth 100000 in
theorem contract (H:Type) (enc:TypeId×Value→H) (W:World) (base:Nat) (args:Array Value) (ds gs:List (DataW H)) (before:List MemPlace)
  (hval0:∀ (j:Nat) t v,Tryz.f4.params[j]? = some t→args[j]? = some v→Value.okWide Tryz.prog W .any base t v)
  (hW:DataW.Whole enc Tryz.prog Tryz.f4.params.toList Rows.machineOnceSpec.vars false W args.toList ds gs before) (hk0:Rows.uptoSmall H (ds++gs)=true) :
  Calls Tryz.prog 4 args W fun e W'=>∃ v,e=.returned v∧Rows.machineOnceSpec.post enc Tryz.prog Tryz.f4 false true false false W args v W':=by
 have hval:∀ (j:Nat) t v,Tryz.f4.params[j]? = some t→args[j]? = some v→Value.okWide Tryz.prog W .any base t v:=hval0
 have hW':=hW
 obtain ⟨p,q,hA0,hV,rfl,hfz,hnd⟩:=hW
 have hA:DataW.TrodAll enc Tryz.prog W 0 (fun _=>true) true Tryz.f4.params.toList args.toList ds p:=hA0
 rw [Tryz.params4] at hA hval
 obtain ⟨v0,vs0,d0,ds0,p0,q0,hargs,rfl,rfl,h0,r0⟩:=trodAll_cons hA
 obtain ⟨v1,vs1,d1,ds1,p1,q1,rfl,rfl,rfl,h1,r1⟩:=trodAll_cons r0
 obtain ⟨v2,vs2,d2,ds2,p2,q2,rfl,rfl,rfl,h2,r2⟩:=trodAll_cons r1
 obtain ⟨rfl,rfl,rfl⟩:=trodAll_nil r2
 obtain rfl:args = #[v0,v1,v2]:=by cases args;simp_all
 obtain ⟨rfl,rfl⟩:=trodVars_none hV
 have rd0:=h0
 have lt0:∀ x∈p0,x.block<W.heap.size:=by obtain ⟨m,hm⟩:=rd0;exact DataW.trod_lt m _ _ _ hm
 obtain ⟨n0,rfl,hn0⟩:=open_intCArg (hval 0 _ v0 rfl rfl) h0
 have rd1:=h1
 have lt1:∀ x∈p1,x.block<W.heap.size:=by obtain ⟨m,hm⟩:=rd1;exact DataW.trod_lt m _ _ _ hm
 obtain ⟨n1,rfl,hn1⟩:=open_intCArg (hval 1 _ v1 rfl rfl) h1
 have rd2:=h2
 have lt2:∀ x∈p2,x.block<W.heap.size:=by obtain ⟨m,hm⟩:=rd2;exact DataW.trod_lt m _ _ _ hm
 obtain ⟨a2,c2,xs2,rfl,hx2,hl2,hc2⟩:=open_ops14Arg (hval 2 _ v2 rfl rfl) h2 (bulk_at hk0 (by simp))
 clear hA0 hval0
 refine (M.machineOnce_walk n0 n1 a2 c2 xs2 W hn0 hn1 hx2 hl2 hc2).mono fun e W' ⟨he,bel⟩=>?_
 subst he
 exact ⟨_,rfl,_,_,_,[],_,[],hW',trodAll_mk1 (shut_bool Tryz.underlying4 _),(trodAll_cons_mk (Below.trod laidOut (by kernel_rfl) (of_decide_eq_true (by kernel_rfl)) rd0 bel lt0) (trodAll_cons_mk (Below.trod laidOut (by kernel_rfl) (of_decide_eq_true (by kernel_rfl)) rd1 bel lt1) (trodAll_cons_mk (Below.trod laidOut (by kernel_rfl) (of_decide_eq_true (by kernel_rfl)) rd2 bel lt2) trodAll_mk0))),rfl,bel.frame _,fun h=>by cases h⟩

set_option maxRecDepth 100000 in
theorem lifted (os:Os) (started:os.Started) (H:Type) (enc:TypeId×Value→H) (F:Stop.Interp) :
  ReturnsInHanded {} Tryz.checked os 4 .any ((Rows.OpenSpec.upto Rows.machineOnceSpec).pre6 enc Tryz.prog Tryz.f4 Rows.machineOnceUptoRow.domain false) (((Rows.OpenSpec.upto Rows.machineOnceSpec).at F).post enc Tryz.prog Tryz.f4 false true false false):=by
 refine returnsInHanded_of_cond (C:=Tryz.checked) (s:=Rows.OpenSpec.upto Rows.machineOnceSpec) (k:=Rows.uptoSmall) rfl own started (by kernel_rfl) Tryz.func4
  (OpenSpec.witness (enc:=enc) (C:=Tryz.checked) (s:=Rows.OpenSpec.upto Rows.machineOnceSpec) (k:=Rows.uptoSmall) rfl false ⟨#[],#[.int .i64 0,.int .i64 0,.slice none 0 0],[]⟩ 8 (by kernel_rfl) (by kernel_rfl) (by kernel_rfl)
   (x:=([.lit (.int .i64 0),.lit (.int .i64 0),.nil],[],[])) (by kernel_rfl) rfl (by kernel_rfl)) ?_
 intro W base args ds gs before hval hW _ hk _
 exact contract H enc W base args ds gs before hval hW hk

set_option maxRecDepth 100000 in
theorem fact0:(Rows.machineOnceUptoRow.inPlace == Tryz.prog.inPlace 4)=true:=by kernel_rfl
set_option maxRecDepth 100000 in
theorem fact1:(Rows.machineOnceUptoRow.unfollowed == Tryz.prog.unfollowed 4)=true:=by kernel_rfl
set_option maxRecDepth 100000 in
theorem fact2:(Rows.machineOnceUptoRow.recurses == Tryz.prog.recurses 4)=true:=by kernel_rfl
set_option maxRecDepth 100000 in
theorem fact3:(Rows.machineOnceUptoRow.named == Tryz.prog.varsNamed 4)=true:=by kernel_rfl
theorem over:Rows.machineOnceUptoRow.holds Tryz.pinned (Rows.OpenSpec.upto Rows.machineOnceSpec) :=
 OpenClaim.holds_of_cond 4 Tryz.f4 rfl rfl rfl rfl rfl rfl rfl ⟨rfl,rfl,rfl,rfl,rfl⟩ rfl rfl rfl rfl rfl (by kernel_rfl) Tryz.func4 (joined_of laidOut fact0 fact1 fact2 fact3 (by kernel_rfl))
  (of_decide_eq_true (by kernel_rfl)) (by unfold Func.isWrapper;first|(rw [if_pos (by decide +kernel)];kernel_rfl)|(rw [if_neg (by decide +kernel)];exact ⟨rfl,rfl⟩))
  (fun os started H enc _ F=>lifted os started H enc F)

theorem proved:Rows.MachineOnceUptoSaid:=over
#print axioms proved

end Go.Proofs.YtdeeoddacnealaaGreat.machineOnceUpto