/- The statement 'CertBack' of the package quilletlaw11: for every input the law returns true, and its arguments read as before. No condition. -/
import Derived.Test.YtfbachckdadhoaaGreatMBK
import Derived.Test.YtfbachckdadhoaaGreatOpenX
namespace Go.Proofs.YtfbachckdadhoaaGreat.certBack
open Go.ChangeShapes Go.WideShapes Go.ChangeAt Go.RowKit
set_option linter.unusedVariables false

set_option maxRecDepth 100000 in
theorem lifted (os:Os) (started:os.Started) (H:Type) (enc:TypeId×Value→H) :
  ReturnsInHanded {} Tryz.checked os 10 .any (Rows.certBackSpec.pre6 enc Tryz.prog Tryz.f10 Rows.certBackRow.domain false) (Rows.certBackSpec.post enc Tryz.prog Tryz.f10 false true false false):=by
 refine returnsInHanded_of_change_sized (C:=Tryz.checked) own started (by kernel_rfl) Tryz.func10
  (ChangeSpec.witness6 (enc:=enc) (C:=Tryz.checked) false ⟨#[],#[.int .i64 0,.int .i64 0,.slice none 0 0,.slice none 0 0],[]⟩ 8 (by kernel_rfl) (by kernel_rfl) (by kernel_rfl) (by kernel_rfl)) ?_
 intro W base args ds gs before hval0 hW hcnd hsz _
 have hval:∀ (j:Nat) t v,Tryz.f10.params[j]? = some t→args[j]? = some v→Value.okWide Tryz.prog W .any base t v:=hval0
 have hW':=hW
 obtain ⟨p,q,hA0,hV,rfl,hfz,hnd⟩:=hW
 have hA:DataW.TrodAll enc Tryz.prog W 0 (fun _=>true) true Tryz.f10.params.toList args.toList ds p:=hA0
 rw [Tryz.params10] at hA hval hsz
 obtain ⟨v0,vs0,d0,ds0,p0,q0,hargs,rfl,rfl,h0,r0⟩:=trodAll_cons hA
 obtain ⟨v1,vs1,d1,ds1,p1,q1,rfl,rfl,rfl,h1,r1⟩:=trodAll_cons r0
 obtain ⟨v2,vs2,d2,ds2,p2,q2,rfl,rfl,rfl,h2,r2⟩:=trodAll_cons r1
 obtain ⟨v3,vs3,d3,ds3,p3,q3,rfl,rfl,rfl,h3,r3⟩:=trodAll_cons r2
 obtain ⟨rfl,rfl,rfl⟩:=trodAll_nil r3
 obtain rfl:args = #[v0,v1,v2,v3]:=by cases args;simp_all
 obtain ⟨rfl,rfl⟩:=trodVars_none hV
 have rd0:=h0
 have lt0:∀ x∈p0,x.block<W.heap.size:=by obtain ⟨m,hm⟩:=rd0;exact DataW.trod_lt m _ _ _ hm
 obtain ⟨n0,rfl,hn0⟩:=open_intCArg (hval 0 _ v0 rfl rfl) h0
 have rd1:=h1
 have lt1:∀ x∈p1,x.block<W.heap.size:=by obtain ⟨m,hm⟩:=rd1;exact DataW.trod_lt m _ _ _ hm
 obtain ⟨n1,rfl,hn1⟩:=open_intCArg (hval 1 _ v1 rfl rfl) h1
 have rd2:=h2
 have lt2:∀ x∈p2,x.block<W.heap.size:=by obtain ⟨m,hm⟩:=rd2;exact DataW.trod_lt m _ _ _ hm
 obtain ⟨a2,c2,xs2,rfl,hx2,hl2,hc2⟩:=open_subsZArg (hval 2 _ v2 rfl rfl) h2 (sized_at hsz (j:=2) rfl rfl)
 have rd3:=h3
 have lt3:∀ x∈p3,x.block<W.heap.size:=by obtain ⟨m,hm⟩:=rd3;exact DataW.trod_lt m _ _ _ hm
 obtain ⟨a3,c3,xs3,rfl,hx3,hl3,hc3⟩:=open_subsZArg (hval 3 _ v3 rfl rfl) h3 (sized_at hsz (j:=3) rfl rfl)
 clear hA0 hval0
 refine (C.certBack_walk n0 n1 a2 c2 xs2 a3 c3 xs3 W hn0 hn1 hx2 hl2 hc2 hx3 hl3 hc3).mono fun e W' ⟨he,bel⟩=>?_
 subst he
 exact ⟨_,rfl,_,_,_,[],_,[],hW',trodAll_mk1 (shut_bool Tryz.underlying4 _),(trodAll_cons_mk (Below.trod laidOut (by kernel_rfl) (of_decide_eq_true (by kernel_rfl)) rd0 bel lt0) (trodAll_cons_mk (Below.trod laidOut (by kernel_rfl) (of_decide_eq_true (by kernel_rfl)) rd1 bel lt1) (trodAll_cons_mk (Below.trod laidOut (by kernel_rfl) (of_decide_eq_true (by kernel_rfl)) rd2 bel lt2) (trodAll_cons_mk (Below.trod laidOut (by kernel_rfl) (of_decide_eq_true (by kernel_rfl)) rd3 bel lt3) trodAll_mk0)))),rfl,bel.frame _,fun h=>by cases h⟩

theorem over:Rows.certBackRow.holds Tryz.pinned (OpenSpec.ofChange Rows.certBackSpec) :=
 OpenClaim.holds_of_wide 10 Tryz.f10 rfl rfl rfl rfl rfl rfl rfl ⟨rfl,rfl,rfl,rfl,rfl⟩ rfl rfl rfl rfl rfl (by kernel_rfl) Tryz.func10 (by kernel_rfl)
  (of_decide_eq_true (by kernel_rfl)) (by unfold Func.isWrapper;first|(rw [if_pos (by decide +kernel)];kernel_rfl)|(rw [if_neg (by decide +kernel)];exact ⟨rfl,rfl⟩))
  (fun os started H enc _=>lifted os started H enc)

theorem proved:Rows.CertBackSaid:=over
#print axioms proved
end Go.Proofs.YtfbachckdadhoaaGreat.certBack
