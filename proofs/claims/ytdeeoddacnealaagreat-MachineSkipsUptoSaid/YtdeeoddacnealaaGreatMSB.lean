/- Several texts as one: LayKs LayRd LayOr SBA SBB SBC. -/
import Derived.Test.YtdeeoddacnealaaGreatChecked
import Derived.Shelf.SlLaysZI
import Derived.Shelf.SlLaysM
import Derived.Test.YtdeeoddacnealaaGreatMBY
import Derived.Test.YtdeeoddacnealaaGreatMYS
import Derived.Test.YtdeeoddacnealaaGreatMPA
import Derived.Shelf.SlIterI.Nil
import Derived.Shelf.SortM.Plain
import Derived.Shelf.SortM.SortNone
import Derived.WalkKit
import Derived.OwnWalkIn
import Derived.TacticsInMore
import Derived.Test.YtdeeoddacnealaaGreatMNC
set_option linter.unusedVariables false
namespace Go.Proofs.YtdeeoddacnealaaGreat
open Go.Shelf

def keysS_ren:Go.Shelf.Ren:=⟨fun|0=>0 | 1=>1 | 2=>2 | 6=>216 | 7=>217 | 8=>243 | 9=>244 | 10=>245 | 11=>267 | 12=>268 | 13=>226 | 14=>286 | 15=>287 | 16=>288 | 17=>289 | 18=>290 | 19=>291 | 20=>292 | 21=>293 | 22=>294 | 23=>258 | 24=>259 | 25=>299 | 26=>280 | 27=>281 | 28=>300 | 29=>301 | 30=>302 | 31=>304 | 32=>305 | 33=>306 | 34=>307 | 35=>308 | 36=>309 | 37=>310 | 38=>311 | 39=>312 | 40=>313 | 41=>314 | 42=>315 | 43=>316 | 44=>317 | 45=>318 | 46=>319 | 47=>322 | n=>n,fun|0=>0 | 1=>1 | 2=>2 | 3=>254 | 4=>4 | 5=>5 | 6=>6 | 7=>7 | 8=>8 | 9=>9 | 10=>10 | 11=>11 | 12=>12 | 13=>13 | 14=>14 | 15=>15 | 16=>16 | 17=>17 | 18=>18 | 19=>19 | 20=>20 | 21=>21 | 23=>249 | 24=>126 | 25=>322 | 26=>2 | 27=>323 | 28=>324 | 29=>325 | 32=>344 | 33=>255 | 34=>361 | 35=>362 | 36=>330 | 37=>271 | 38=>376 | 39=>350 | 40=>351 | 41=>377 | 42=>378 | 43=>291 | 44=>379 | 45=>259 | 46=>380 | 47=>356 | 48=>357 | 49=>358 | 50=>160 | 51=>368 | 52=>369 | 53=>370 | 54=>386 | 55=>372 | 56=>387 | 57=>383 | 58=>384 | 59=>389 | 60=>390 | 61=>391 | 62=>392 | 63=>393 | 64=>394 | 65=>395 | 66=>142 | 67=>396 | 68=>397 | 69=>398 | 70=>399 | 71=>400 | 72=>401 | 73=>402 | 74=>403 | 75=>404 | n=>n,fun|n=>n⟩
theorem keysS:SlLaysZI.n7 Tryz.prog keysS_ren:={
 mixed:=by kernel_rfl,
 f7:=⟨Tryz.f217.name,by decide,Tryz.func217.trans (congrArg some (by kernel_rfl))⟩,
 f10:=⟨Tryz.f245.name,by decide,Tryz.func245.trans (congrArg some (by kernel_rfl))⟩,
 t0:=Tryz.underlying0,
 a0:=Tryz.isAgg0,
 z0:=Tryz.sizeOf0,
 v0:=Tryz.zeroValue0,
 t4:=Tryz.underlying4,
 a4:=Tryz.isAgg4,
 z4:=Tryz.sizeOf4,
 v4:=Tryz.zeroValue4,
 t23:=Tryz.underlying249,
 a23:=Tryz.isAgg249,
 z23:=Tryz.sizeOf249,
 v23:=Tryz.zeroValue249,
 t26:=Tryz.underlying2,
 a26:=Tryz.isAgg2,
 z26:=Tryz.sizeOf2,
 v26:=Tryz.zeroValue2,
 t27:=Tryz.underlying323,
 a27:=Tryz.isAgg323,
 z27:=Tryz.sizeOf323,
 v27:=Tryz.zeroValue323,
 t28:=Tryz.underlying324,
 a28:=Tryz.isAgg324,
 z28:=Tryz.sizeOf324,
 v28:=Tryz.zeroValue324,
 t33:=Tryz.underlying255,
 a33:=Tryz.isAgg255,
 z33:=Tryz.sizeOf255,
 v33:=Tryz.zeroValue255 }

def sortedS_ren:Go.Shelf.Ren:=⟨fun|0=>0 | 1=>1 | 2=>2 | 6=>216 | 7=>217 | 8=>243 | 9=>244 | 10=>245 | 11=>267 | 12=>268 | 13=>226 | 14=>286 | 15=>287 | 16=>288 | 17=>289 | 18=>290 | 19=>291 | 20=>292 | 21=>293 | 22=>294 | 23=>258 | 24=>259 | 25=>299 | 26=>280 | 27=>281 | 28=>300 | 29=>301 | 30=>302 | 31=>304 | 32=>305 | 33=>306 | 34=>307 | 35=>308 | 36=>309 | 37=>310 | 38=>311 | 39=>312 | 40=>313 | 41=>314 | 42=>315 | 43=>316 | 44=>317 | 45=>318 | 46=>319 | 47=>322 | n=>n,fun|0=>0 | 1=>1 | 2=>2 | 3=>254 | 4=>4 | 5=>5 | 6=>6 | 7=>7 | 8=>8 | 9=>9 | 10=>10 | 11=>11 | 12=>12 | 13=>13 | 14=>14 | 15=>15 | 16=>16 | 17=>17 | 18=>18 | 19=>19 | 20=>20 | 21=>21 | 23=>249 | 24=>126 | 25=>322 | 26=>2 | 27=>323 | 28=>324 | 29=>325 | 32=>344 | 33=>255 | 34=>361 | 35=>362 | 36=>330 | 37=>271 | 38=>376 | 39=>350 | 40=>351 | 41=>377 | 42=>378 | 43=>291 | 44=>379 | 45=>259 | 46=>380 | 47=>356 | 48=>357 | 49=>358 | 50=>160 | 51=>368 | 52=>369 | 53=>370 | 54=>386 | 55=>372 | 56=>387 | 57=>383 | 58=>384 | 59=>389 | 60=>390 | 61=>391 | 62=>392 | 63=>393 | 64=>394 | 65=>395 | 66=>142 | 67=>396 | 68=>397 | 69=>398 | 70=>399 | 71=>400 | 72=>401 | 73=>402 | 74=>403 | 75=>404 | n=>n,fun|n=>n⟩
theorem sortedS:SlLaysZI.n6 Tryz.prog sortedS_ren:={
 mixed:=by kernel_rfl,
 f6:=⟨Tryz.f216.name,by decide,Tryz.func216.trans (congrArg some (by kernel_rfl))⟩,
 f8:=⟨Tryz.f243.name,by decide,Tryz.func243.trans (congrArg some (by kernel_rfl))⟩,
 f11:=⟨Tryz.f267.name,by decide,Tryz.func267.trans (congrArg some (by kernel_rfl))⟩,
 t0:=Tryz.underlying0,
 a0:=Tryz.isAgg0,
 z0:=Tryz.sizeOf0,
 v0:=Tryz.zeroValue0,
 t24:=Tryz.underlying126,
 a24:=Tryz.isAgg126,
 z24:=Tryz.sizeOf126,
 v24:=Tryz.zeroValue126,
 t26:=Tryz.underlying2,
 a26:=Tryz.isAgg2,
 z26:=Tryz.sizeOf2,
 v26:=Tryz.zeroValue2,
 t28:=Tryz.underlying324,
 a28:=Tryz.isAgg324,
 z28:=Tryz.sizeOf324,
 v28:=Tryz.zeroValue324,
 i26:=by kernel_rfl }

def sortS_ren:Go.Shelf.Ren:=⟨fun|0=>0 | 1=>1 | 2=>2 | 5=>244 | 7=>268 | 8=>226 | 10=>286 | 11=>287 | 12=>288 | 13=>289 | 14=>290 | 15=>291 | 16=>292 | 17=>293 | 18=>294 | 19=>258 | 20=>259 | 30=>299 | 31=>280 | 32=>281 | 33=>300 | 34=>301 | 35=>302 | 40=>304 | 42=>305 | 43=>306 | 44=>307 | 45=>308 | 46=>309 | 47=>310 | 48=>311 | 49=>312 | 50=>313 | 51=>314 | 52=>315 | 53=>316 | 54=>317 | 55=>318 | 56=>319 | 57=>322 | n=>n,fun|0=>0 | 1=>1 | 2=>2 | 3=>3 | 4=>4 | 5=>5 | 6=>6 | 7=>7 | 8=>8 | 9=>9 | 10=>10 | 11=>11 | 12=>12 | 13=>13 | 14=>14 | 15=>15 | 16=>16 | 17=>17 | 18=>18 | 19=>19 | 20=>20 | 21=>21 | 22=>126 | 23=>126 | 24=>344 | 25=>2 | 30=>362 | 31=>330 | 32=>271 | 34=>376 | 35=>350 | 36=>351 | 37=>377 | 38=>378 | 39=>291 | 40=>379 | 41=>259 | 42=>380 | 43=>356 | 44=>357 | 45=>358 | 46=>160 | 53=>368 | 54=>369 | 55=>370 | 56=>386 | 57=>372 | 58=>387 | 59=>255 | 63=>383 | 64=>384 | 65=>389 | 67=>390 | 68=>391 | 69=>392 | 70=>393 | 71=>394 | 72=>395 | 73=>142 | 74=>396 | 75=>397 | 76=>398 | 77=>399 | 78=>400 | 79=>401 | 80=>402 | 81=>403 | 82=>404 | n=>n,fun|n=>n⟩
theorem sortS:SlLaysM.n5 Tryz.prog sortS_ren:={
 mixed:=by kernel_rfl,
 f5:=⟨Tryz.f244.name,by decide,Tryz.func244.trans (congrArg some (by kernel_rfl))⟩,
 f7:=⟨Tryz.f268.name,by decide,Tryz.func268.trans (congrArg some (by kernel_rfl))⟩,
 f8:=Tryz.func226.trans (congrArg some (by kernel_rfl)),
 f10:=⟨Tryz.f286.name,by decide,Tryz.func286.trans (congrArg some (by kernel_rfl))⟩,
 f11:=⟨Tryz.f287.name,by decide,Tryz.func287.trans (congrArg some (by kernel_rfl))⟩,
 f12:=⟨Tryz.f288.name,by decide,Tryz.func288.trans (congrArg some (by kernel_rfl))⟩,
 f13:=⟨Tryz.f289.name,by decide,Tryz.func289.trans (congrArg some (by kernel_rfl))⟩,
 f14:=⟨Tryz.f290.name,by decide,Tryz.func290.trans (congrArg some (by kernel_rfl))⟩,
 f15:=⟨Tryz.f291.name,by decide,Tryz.func291.trans (congrArg some (by kernel_rfl))⟩,
 f16:=⟨Tryz.f292.name,by decide,Tryz.func292.trans (congrArg some (by kernel_rfl))⟩,
 f17:=⟨Tryz.f293.name,by decide,Tryz.func293.trans (congrArg some (by kernel_rfl))⟩,
 f18:=⟨Tryz.f294.name,by decide,Tryz.func294.trans (congrArg some (by kernel_rfl))⟩,
 f19:=Tryz.func258.trans (congrArg some (by kernel_rfl)),
 f20:=Tryz.func259.trans (congrArg some (by kernel_rfl)),
 f30:=⟨Tryz.f299.name,by decide,Tryz.func299.trans (congrArg some (by kernel_rfl))⟩,
 f31:=Tryz.func280.trans (congrArg some (by kernel_rfl)),
 f32:=Tryz.func281.trans (congrArg some (by kernel_rfl)),
 f33:=⟨Tryz.f300.name,by decide,Tryz.func300.trans (congrArg some (by kernel_rfl))⟩,
 f34:=⟨Tryz.f301.name,by decide,Tryz.func301.trans (congrArg some (by kernel_rfl))⟩,
 f35:=⟨Tryz.f302.name,by decide,Tryz.func302.trans (congrArg some (by kernel_rfl))⟩,
 f40:=⟨Tryz.f304.name,by decide,Tryz.func304.trans (congrArg some (by kernel_rfl))⟩,
 t0:=Tryz.underlying0,
 a0:=Tryz.isAgg0,
 z0:=Tryz.sizeOf0,
 v0:=Tryz.zeroValue0,
 t3:=Tryz.underlying3,
 a3:=Tryz.isAgg3,
 z3:=Tryz.sizeOf3,
 v3:=Tryz.zeroValue3,
 t4:=Tryz.underlying4,
 a4:=Tryz.isAgg4,
 z4:=Tryz.sizeOf4,
 v4:=Tryz.zeroValue4,
 t5:=Tryz.underlying5,
 a5:=Tryz.isAgg5,
 z5:=Tryz.sizeOf5,
 v5:=Tryz.zeroValue5,
 t9:=Tryz.underlying9,
 a9:=Tryz.isAgg9,
 z9:=Tryz.sizeOf9,
 v9:=Tryz.zeroValue9,
 t22:=Tryz.underlying126,
 a22:=Tryz.isAgg126,
 z22:=Tryz.sizeOf126,
 v22:=Tryz.zeroValue126,
 t23:=Tryz.underlying126,
 a23:=Tryz.isAgg126,
 z23:=Tryz.sizeOf126,
 v23:=Tryz.zeroValue126,
 t25:=Tryz.underlying2,
 a25:=Tryz.isAgg2,
 z25:=Tryz.sizeOf2,
 v25:=Tryz.zeroValue2,
 t32:=Tryz.underlying271,
 a32:=Tryz.isAgg271,
 z32:=Tryz.sizeOf271,
 v32:=Tryz.zeroValue271,
 t35:=Tryz.underlying350,
 a35:=Tryz.isAgg350,
 z35:=Tryz.sizeOf350,
 v35:=Tryz.zeroValue350,
 t36:=Tryz.underlying351,
 a36:=Tryz.isAgg351,
 z36:=Tryz.sizeOf351,
 v36:=Tryz.zeroValue351,
 t41:=Tryz.underlying259,
 a41:=Tryz.isAgg259,
 z41:=Tryz.sizeOf259,
 v41:=Tryz.zeroValue259,
 t44:=Tryz.underlying357,
 a44:=Tryz.isAgg357,
 z44:=Tryz.sizeOf357,
 v44:=Tryz.zeroValue357,
 t46:=Tryz.underlying160,
 a46:=Tryz.isAgg160,
 z46:=Tryz.sizeOf160,
 v46:=Tryz.zeroValue160,
 t53:=Tryz.underlying368,
 a53:=Tryz.isAgg368,
 z53:=Tryz.sizeOf368,
 v53:=Tryz.zeroValue368,
 t57:=Tryz.underlying372,
 a57:=Tryz.isAgg372,
 z57:=Tryz.sizeOf372,
 v57:=Tryz.zeroValue372,
 t63:=Tryz.underlying383,
 a63:=Tryz.isAgg383,
 z63:=Tryz.sizeOf383,
 v63:=Tryz.zeroValue383,
 t64:=Tryz.underlying384,
 a64:=Tryz.isAgg384,
 z64:=Tryz.sizeOf384,
 v64:=Tryz.zeroValue384 }
end Go.Proofs.YtdeeoddacnealaaGreat
namespace Go.Proofs.YtdeeoddacnealaaGreat.Z
open Go.RowKit Fl
open Go.Proofs.YtdeeoddacnealaaGreat.P (PV VBox appV BoxRet numB NumD packB pvCells own_notbox)

theorem vs_num {p n:Nat} {L:List Nat} {w:World} (h:C.VS p L n w) (k:Int) (hk:NumD k) (hn:n≤900) :
  ∃ (a:Option Addr) (c:Nat) (a':Option Addr) (c':Nat) (w1:World),w.cell? ⟨p,0,none⟩=some (.slice a n c) ∧
   (∀ ty,(Builtin.append_ #[134,134] ty #[.slice a n c,.slice (some ⟨w.heap.size,0,none⟩) 1 1]).run Tryz.prog (w.alloc (.cells #[.int .i64 1,.int .i64 k,.float .f64 0,.slice none 0 0,.bool false] 136))=.ok (.slice a' (n+1) c') w1) ∧
   w1.cell? ⟨p,0,none⟩=some (.slice a n c)∧w1.frozen? ⟨p,0,none⟩=false∧C.VS p (L++numB k) (n+1) (w1.setCell ⟨p,0,none⟩ (.slice a' (n+1) c'))∧P.Fr p w (w1.setCell ⟨p,0,none⟩ (.slice a' (n+1) c')):=by
 obtain ⟨vs,⟨a,c,h1,h2⟩,h3,h4,h5,h6⟩:=h
 subst h4
 have hlt:p<w.heap.size:=(Array.getElem?_eq_some_iff.1 h1).1
 have c0:w.cell? ⟨p,0,none⟩=some (.slice a vs.length c):=by rw [cell_of_row w p 0 _ _ (0,0) h1];rfl
 obtain ⟨a',c',w1,hr,hown,hg⟩:=appV (.num k) rfl h2 (by omega) (by omega)
 have F1:=P.Fr.of_grown h2 hg
 have h1':w1.heap[p]? = some (.cells #[.slice a vs.length c] 134 (0,0)):=(hg.block p hlt (fun e=>by have:=(h2.lt p e.symm).1;omega)).trans h1
 obtain ⟨k5,k6⟩:=K.set1 (i:=0) h1' (.slice a' (vs.length+1) c')
 have hl2:(vs++[PV.num k]).length=vs.length+1:=by simp
 have HF:=F1.trans (P.Fr.of_set k6)
 refine ⟨a,c,a',c',w1,c0,hr,by rw [cell_of_row w1 p 0 _ _ (0,0) h1'];rfl,by simp [World.frozen?,h1'],⟨vs++[.num k],⟨a',c',by rw [hl2];exact k5,by rw [hl2];exact hown.kept k6 (.inr fun e=>own_notbox hown e h1' rfl)⟩,by rw [C.packB_snoc,h3];rfl,hl2,fun v hv=>?_,fun v hv=>?_⟩,HF⟩
 ·rcases List.mem_append.1 hv with hv|hv
  ·exact h5 v hv
  ·obtain rfl:=List.mem_singleton.1 hv;exact hk
 ·rcases List.mem_append.1 hv with hv|hv
  ·exact C.lies_fr (h6 v hv) HF h1
  ·obtain rfl:=List.mem_singleton.1 hv;trivial

set_option maxRecDepth 100000 in
theorem sNum_any {p n:Nat} {L:List Nat} {w:World} (h:C.VS p L n w) (b k c:Nat) (ns:List Int) (hk:ns.length=k) (hb:w.heap[b]? = some (.cells (ns.map (Value.int .i64)).toArray 2 (0,0))) (hns:∀ x∈ns,NumD x) (hn:n+k≤900) :
  Calls Tryz.prog 171 #[.slice (some ⟨b,0,none⟩) k c,.pointer (some ⟨p,0,none⟩)] w fun e w'=>e=.returned (.tuple #[])∧C.VS p (L++ns.flatMap numB) (n+k) w'∧P.Fr p w w':=by
 obtain ⟨cur,hp⟩:=h.box
 have hbp:b≠p:=fun e=>by subst e;rw [hb] at hp;simp at hp
 have HB:=hid hb;have HN:=hid hns;have HK:=hid hk;have HV:=hid h
 clear h hb hns hk hp
 go_enter Tryz.func171,Tryz.ntmps171
 go_upto_region 1 with fail
 go_loopw [7] (fun t7 wr=>∃ i:Nat,t7=.int .i64 (i:Nat)∧i≤k∧Hid (C.VS p (L++(ns.take i).flatMap numB) (n+i) wr)∧Hid (P.Fr p w wr)) (fun t7 _=>k-(intOf t7).toNat)
 case atStart=>exact ⟨0,rfl,Nat.zero_le _,hid (by simpa using HV.out),hid (P.Fr.refl _ _)⟩
 case round =>
  obtain ⟨i,rfl,hi,HS,HF⟩:=hrel
  by_cases hlt:i<k
  ·have hlt':(i:Int)<(k:Int):=by omega
   have hi':i<ns.length:=by rw [HK.out];exact hlt
   obtain ⟨x,hx⟩:∃ x,ns[i]? = some x:=⟨_,List.getElem?_eq_getElem hi'⟩
   have hrow:=HF.out.tag HB.out hbp (by decide)
   have cx:wr.cell? ⟨b,i,none⟩=some (.int .i64 x):=by rw [cell_of_row wr _ _ _ _ (0,0) hrow];simp [hx]
   obtain ⟨a,c',a',c'',w1,c0,hr,c1,f1,V1,F1⟩:=vs_num HS.out x (HN.out x (List.mem_of_getElem? hx)) (by omega)
   have HV1:=hid V1;have HF1:=hid F1
   clear V1 F1 hrow
   go_wp2_with (at_builtin;refine Lib.wpList_append_run _ rfl _ _ _ _ rfl _ _ rfl rfl _ _ (hr _) ?_)
   go_roundw
   case rel =>
    refine ⟨i+1,by go_num,by omega,hid ?_,hid (HF.out.trans HF1.out)⟩
    have e:L++(ns.take (i+1)).flatMap numB=L++(ns.take i).flatMap numB++numB x:=by rw [List.take_add_one,hx,List.flatMap_append,List.append_assoc];simp
    rw [e]
    exact HV1.out
   case measure=>simp [intOf];omega
  ·obtain rfl:i=k:=by omega
   go_wp2
   go_end0
   refine ⟨rfl,?_,HF.out⟩
   have:=HS.out
   rw [List.take_of_length_le (by rw [HK.out];exact Nat.le_refl _)] at this
   exact this
open Go.RowKit Go.Maps Go.Sort Go.Shelf Fl

theorem dat_keysS (os:List SL):intKeys (datOf os)=os.map fun o=>o.d.id:=by
 unfold datOf intKeys
 simp only
 rw [List.map_map]
 rfl
theorem keys_sorted {os:List SL} (h:risS (os.map SL.d)) {ss:List Int} (hp:ss.Perm (intKeys (datOf os))):ss.mergeSort (fun x y=>decide (x≤y))=os.map fun o=>o.d.id:=by
 rw [dat_keysS] at hp
 have h1:(ss.mergeSort fun x y=>decide (x≤y)).Perm (os.map fun o=>o.d.id):=(List.mergeSort_perm ss _).trans hp
 have h2:(ss.mergeSort fun x y=>decide (x≤y)).Pairwise (fun x y=>x≤y):=by
  have:=List.pairwise_mergeSort (le:=fun x y:Int=>decide (x≤y)) (fun a b c h1 h2=>by simp at *;omega) (fun a b=>by simp;omega) ss
  exact this.imp fun h=>by simpa using h
 have h3:(os.map fun o=>o.d.id).Pairwise (fun x y=>x≤y):=by
  rw [List.pairwise_map]
  have h4:os.Pairwise (fun x y=>x.d.id<y.d.id):=by unfold risS at h;rw [List.pairwise_map] at h;exact h
  exact h4.imp fun h=>Int.le_of_lt h
 exact h1.eq_of_pairwise (fun a b _ _ h1 h2=>Int.le_antisymm h1 h2) h2 h3
theorem sortsS (m:Nat):AnyZI.SortsIn Tryz.prog sortedS_ren Fence.wide m :=
 ⟨fun blk off cap ss W hH hblk hsz=>callsIn_wide.2 (AnyM.slices_Sort_int sortS blk off cap ss W hH hblk hsz),
  fun p cap W=>callsIn_wide.2 (AnyM.slices_Sort_int_none sortS p cap W)⟩
def zCells (l:List Int):List Value:=l.map fun n=>.int .i64 n
def NumsRet (l:List Int) (w:World) (e:Ending) (w':World):Prop:=∃ a c,e=.returned (.slice a l.length c)∧w'.ownsRow w.heap.size 2 1 (.slice a l.length c) l.length (zCells l)∧Below w.heap.size w w'
theorem own_slice64 {w:World} {B n:Nat} {v:Value} {cs:List Value} (h:w.ownsRow B 2 1 v n cs):∃ va vc,v=.slice va n vc:=by
 rcases h.2 with ⟨rfl,h0⟩|⟨g,cap,cur,rfl,_⟩
 ·exact ⟨none,0,by rw [h0]⟩
 ·exact ⟨_,_,rfl⟩
set_option maxHeartbeats 1000000 in
theorem sessions_any {B T mb:Nat} {os:List SL} {ow:Nat→Nat} {w:World} (h:SAt B T mb os ow w) :
  Calls Tryz.prog 172 #[.pointer (some ⟨T,0,none⟩)] w (NumsRet (os.map fun o=>o.d.id) w):=by
 have hown:=h.map
 have hlen:os.length≤1099511627776:=by have:=h.few;omega
 have hrise:=h.up
 have c4:w.cell? ⟨T,0,none⟩=some (.map (some mb)):=by rw [cell_of_row w T 0 _ _ (0,0) h.box];rfl
 clear h
 generalize hnn:os.length=nn at *
 rw [←hnn] at hlen
 generalize mb=b at *
 have hmax:Maps.size (datOf os)≤maxLen:=by rw [dat_size];unfold maxLen;omega
 have hbytes:Maps.size (datOf os) * 8≤140737488355328:=by rw [dat_size];omega
 refine (callsIn_wide (n:=6)).1 ?_
 have hbl:=hown.lt
 have hseq:SeqGives Fence.wide 2 Tryz.prog 245 #[.pointer (some ⟨w.heap.size,0,none⟩)] encZ (fun ss=>ss.Perm (intKeys (datOf os))) (Maps.size (datOf os)) (w.alloc (.cells #[.map (some b)] 249)) :=
  AnyZI.keys_gives (ρ:=keysS_ren) { keysS with } Fence.wide _ trivial rfl (by omega) w.heap.size b nn (datOf os) _ (by simp) (by simp) (by
   obtain ⟨es,clock,hb,Ft,hs,hD⟩:=hown
   exact ⟨es,clock,(Below.heap_alloc _ _ b hbl).trans hb,Ft,hs,hD⟩)
 have cK:∀ mb W,CallsIn Fence.wide 5 Tryz.prog 217 #[.map mb] W fun e w'=>e=.returned (.func (.func 245) #[] #[.pointer (some ⟨W.heap.size,0,none⟩)])∧w'=W.alloc (.cells #[.map mb] 249):=fun mb W=>AnyZI.keys_in keysS Fence.wide 5 trivial rfl mb W
 have cS:=AnyZI.sorted_in sortedS Fence.wide 5 trivial trivial trivial trivial rfl (by omega) (sortsS _) (enters_of Tryz.func244 (by kernel_rfl) rfl) 245 #[.pointer (some ⟨w.heap.size,0,none⟩)] trivial (enters_of Tryz.func245 (by kernel_rfl) rfl) _ _ hmax hbytes _ hseq
 change CallsIn _ _ Tryz.prog 216 _ _ _ at cS
 have hfK:Fence.wide.fn 217:=trivial
 have hfS:Fence.wide.fn 216:=trivial
 clear hmax hbytes hseq hown
 refine callsIn_of_wp Tryz.func172 rfl trivial ?_ rfl
 simp only [Tryz.ntmps172,List.size_toArray,List.length_cons,List.length_nil,Nat.reduceAdd,Nat.reduceSub,Array.replicate_succ,Array.replicate_zero,List.push_toArray,List.append_toArray,List.nil_append,List.cons_append]
 gi_wp2_with (first
  | (gi_at_call 217;refine (cK _ _).mono ?_;rintro e w' ⟨rfl,rfl⟩)
  | (gi_at_call 216;refine cS.mono ?_;rintro e w' ⟨v,ss,rfl,hS,hrow,hnil,hb⟩))
 have hks:=keys_sorted hrise hS
 have hsl:ss.length=(os.map fun o=>o.d.id).length:=by rw [←hks,List.length_mergeSort]
 rw [hks,hsl] at hrow
 have hrow2:=ownsRow_base_a (base':=w.heap.size) hrow (by simp)
 obtain ⟨a,cc,rfl⟩:=own_slice64 hrow2
 go_ret
 exact ⟨a,cc,rfl,hrow2,((Below.refl _ w).alloc (Nat.le_refl _) _).trans (hb.mono (by simp))⟩
open Go.Proofs.YtdeeoddacnealaaGreat.P (PV VBox numB NumD packB bCells)

def itS (x:SIt):List Nat:=numB x.seq++numB x.code++numB x.num
def sesB (s:SD):List Nat:=numB s.id++numB s.hi++numB s.ks.length++s.ks.flatMap itS
def tabS (t:List SD):List Nat:=numB t.length++t.flatMap sesB
def cntS:List SD→Nat
 | []=>0
 | s :: t=>3+3 * s.ks.length+cntS t
theorem cntS_snoc (t:List SD) (s:SD):cntS (t++[s])=cntS t+(3+3 * s.ks.length):=by
 induction t with
 | nil=>simp [cntS]
 | cons a t ih=>simp only [List.cons_append,cntS,ih];omega
theorem cntS_le {t:List SD} (h:∀ s∈t,s.ks.length≤8):cntS t≤27 * t.length:=by
 induction t with
 | nil=>simp [cntS]
 | cons a t ih =>
  have h1:=h a List.mem_cons_self
  have h2:=ih fun s hs=>h s (List.mem_cons_of_mem _ hs)
  simp only [cntS,List.length_cons];omega
theorem find_at {os:List SL} (h:risS (os.map SL.d)) {o:SL} (ho:o∈os):findL os o.d.id=some o:=by
 unfold risS at h
 rw [List.pairwise_map] at h
 unfold findL
 induction os with
 | nil=>cases ho
 | cons a os ih =>
  obtain ⟨h1,h2⟩:=List.pairwise_cons.1 h
  rw [List.find?_cons]
  rcases List.mem_cons.1 ho with rfl|hm
  ·simp
  ·have:=h1 o hm
   rw [decide_eq_false (by omega)]
   exact ih h2 hm
def SBRet (t:List SD) (w:World) (e:Ending) (w':World):Prop:=∃ a c,e=.returned (.slice a (tabS t).length c)∧w'.ownsRow w.heap.size 5 1 (.slice a (tabS t).length c) (tabS t).length (bCells (tabS t))∧Below w.heap.size w w'

theorem fr_below {p:Nat} {a b:World} (h:Below a.heap.size a b):P.Fr p a b:=⟨h.os,h.tape,h.output,h.size,fun k hk _ _=>h.block k hk⟩

def SR (Y0:World) (x0 x1 x2:Int) (Q:World→Prop):List Value→World→Prop
 | [],X=>X=Y0
 | [v],X=>v=.slice (some ⟨Y0.heap.size,0,none⟩) 3 3∧X=Y0.alloc (.cells #[.int .i64 x0,.int .i64 x1,.int .i64 x2] 2)
 | _ :: u :: _,X=>u=.tuple #[]∧Q X

set_option maxRecDepth 100000 in
set_option maxHeartbeats 2000000 in
theorem sbytes_any {B T mb:Nat} {os:List SL} {ow:Nat→Nat} {w:World} (h:SAt B T mb os ow w) (hI:TInv (os.map SL.d)) :
  Calls Tryz.prog 94 #[.pointer (some ⟨T,0,none⟩)] w (SBRet (os.map SL.d) w):=by
 have hmf:∀ (fn:Fn) (first cap:Array Value) (w:World),(Instr.makeFunc fn first cap).run Tryz.prog w=.ok (.func fn first cap) w:=fun _ _ _ _=>rfl
 have HI:=hid hI
 have HC:=hid fun W (hb':Below w.heap.size w W)=>h.below hb'
 have HUP:=hid h.up
 have h16:=h.few
 clear h hI
 go_enter Tryz.func94,Tryz.ntmps94
 go_upto_region 3 with fail
 generalize hW1:World.alloc w _=w1
 have hb1:Below w.heap.size w w1:=by rw [←hW1];exact below_auto
 have q1:w1.heap[w.heap.size]? = some (.cells #[.slice none 0 0] 134 (0,0)):=by rw [←hW1];exact heap_alloc_new w _
 obtain ⟨p,hp⟩:∃ p,p=w.heap.size:=⟨_,rfl⟩
 rw [←hp] at q1 ⊢
 have hp1:p<w1.heap.size:=(Array.getElem?_eq_some_iff.1 q1).1
 have V1:C.VS p [] 0 w1:=⟨[],⟨none,0,q1,⟨rfl,.inl ⟨rfl,rfl⟩⟩⟩,rfl,rfl,by simp,by simp⟩
 have HBW:=hid fun W (f:P.Fr p w1 W)=>(show Below w.heap.size w W from hb1.trans (by have:=f.below (Nat.le_of_lt hp1);rwa [hp] at this))
 have HP:=hid hp
 have c0:=cell_row (HC.out w1 hb1).box 0
 simp at c0
 have hln:=len_s (HC.out w1 hb1)
 have hT1:=(HC.out w1 hb1).lt.2
 have HF1:=hid (P.Fr.refl p w1)
 have HV1:=hid V1
 clear hW1 hb1 q1 hp hp1 V1
 obtain ⟨nn,hnn⟩:∃ n,n=os.length:=⟨_,rfl⟩
 have HN:=hid hnn
 rw [←hnn] at h16
 simp only [←hnn] at hln
 clear hnn
 go_wp2_with fail
 have hnum:∀ x∈[((nn:Nat):Int)],NumD x:=fun x hx=>by obtain rfl:=List.mem_singleton.1 hx;exact ⟨by omega,by omega⟩
 refine (sNum_any (HV1.out.below (by exact below_auto)) w1.heap.size 1 1 [((nn:Nat):Int)] rfl (heap_alloc_new w1 _) hnum (by omega)).mono ?_
 rintro e w2 ⟨rfl,V2,F2⟩
 have F2:=(HF1.out.alloc _).trans F2
 have HV2:=hid (show C.VS p (numB nn) 1 w2 from by simpa using V2)
 have HF2:=hid F2
 clear c0 hln V2 F2 hnum HF1 HV1
 go_wp2_with fail
 refine (sessions_any (HC.out w2 (HBW.out w2 HF2.out))).mono ?_
 rintro e w3 ⟨ia,ic,rfl,hrow,hb3⟩
 have HF3:=hid (HF2.out.trans (fr_below hb3))
 have HV3:=hid (HV2.out.below hb3)
 have HR:=hid hrow
 have hil:(os.map fun o=>o.d.id).length=nn:=by rw [List.length_map];exact HN.out.symm
 have HIL:=hid hil
 simp only [hil]
 have HF2B:=hid HF2.out
 have HZ2:=hid (show p<w2.heap.size from by have:=(HBW.out w2 HF2.out).size;have:=HF2.out.size;have h:=HP.out;have:=HV2.out.box;obtain ⟨_,hq⟩:=this;exact (Array.getElem?_eq_some_iff.1 hq).1)
 clear hrow hb3 HF2 HV2 hil
 go_upto_region 5 with fail
 go_loopw [24] (fun t24 wr=>∃ i:Nat,t24=.int .i64 (i:Nat)∧i≤nn∧Hid (C.VS p (numB nn++((os.map SL.d).take i).flatMap sesB) (1+cntS ((os.map SL.d).take i)) wr)∧Hid (P.Fr p w3 wr)) (fun t24 _=>nn-(intOf t24).toNat)
 case atStart=>exact ⟨0,rfl,Nat.zero_le _,hid (by simpa [cntS] using HV3.out),hid (P.Fr.refl _ _)⟩
 case round =>
  obtain ⟨i,rfl,hi,HV,HF⟩:=hrel
  by_cases hlt:i<nn
  ·have hlt':(i:Int)<(nn:Int):=by omega
   have hi':i<os.length:=by rw [←HN.out];exact hlt
   obtain ⟨o,ho⟩:∃ o,os[i]? = some o:=⟨_,List.getElem?_eq_getElem hi'⟩
   have hom:=List.mem_of_getElem? ho
   have HO:=hid ho
   have HOM:=hid hom
   have Fw:=HF3.out.trans HF.out
   have hbw:=HBW.out wr Fw
   have S:=HC.out wr hbw
   have hf:=find_at HUP.out hom
   have ⟨x1,x2,x3,x4,x5,x6⟩:=ses_of S HI.out hf
   have hid1:=(S.pos o hom)
   have hlk:=look_s S (id:=o.d.id) (by omega)
   rw [hf] at hlk
   simp only [SL.val] at hlk
   obtain ⟨g,hia,hgr⟩:∃ g,ia=some ⟨g,0,none⟩∧wr.cell? ⟨g,i,none⟩=some (.int .i64 o.d.id):=by
    have hr:=HR.out
    rcases hr.2 with ⟨_,h2⟩|⟨g,cap,cur,h1,hb,hg,_⟩
    ·have:=HIL.out;omega
    ·cases h1
     have hgp:g≠p:=fun e=>by have:=HZ2.out;omega
     refine ⟨g,rfl,(World.cell?_of_block ((HF.out.tag hg hgp (by decide)).trans hg.symm)).trans ?_⟩
     have:=hr.cells (g:=g) rfl i (.int .i64 o.d.id) (by unfold zCells;simp [HO.out])
     rwa [K.addr0] at this
   subst hia
   have c0:=cell_row S.box 0
   simp at c0
   obtain ⟨y0,y1,_⟩:=box2 x1
   go_upto_region 8 with fail
   obtain ⟨Y0,hY0⟩:∃ Y:World,Y = { wr with drawn:=wr.drawn+1 }:=⟨_,rfl⟩
   have HY0:=hid hY0
   have HY1:=hid (show Y0.cell? ⟨o.p,0,none⟩=some (.int .i64 o.d.hi)∧Y0.cell? ⟨o.p,1,none⟩=some (.slice o.a o.d.ks.length o.c) from by rw [hY0];exact ⟨y0,y1⟩)
   have hb0:Below wr.heap.size wr Y0:=by rw [hY0];exact Below.drew (Below.refl _ _)
   have z0:Y0.heap.size=wr.heap.size:=by rw [hY0]
   have HVY:=hid (HV.out.below hb0)
   have HFY:=hid (fr_below (p:=p) hb0)
   have hcn:1+cntS ((os.map SL.d).take i)≤600:=by
    have h1:=cntS_le (t:=(os.map SL.d).take i) fun s hs=>by
     obtain ⟨q,hq,rfl⟩:=List.mem_map.1 (List.mem_of_mem_take hs)
     exact HI.out.len (List.mem_map_of_mem hq)
    have h2:((os.map SL.d).take i).length≤i:=List.length_take_le _ _
    omega
   have HCN:=hid hcn
   have hkl:o.d.ks.length≤8:=x3
   have HKL:=hid hkl
   have HID:=hid hid1
   have HHI:=hid x6
   have hnum:∀ x∈[o.d.id,o.d.hi,(o.d.ks.length:Int)],NumD x:=fun x hx=>by
    simp only [List.mem_cons,List.not_mem_nil,or_false] at hx
    rcases hx with rfl|rfl|rfl <;> exact ⟨by omega,by omega⟩
   have HNUM:=hid hnum
   clear hY0 hb0 z0 y0 y1 c0 hlk hgr x1 x2 x3 x4 x5 x6 hf S hbw Fw hcn hkl hid1 hnum
   refine wp_region_chainV [(0,fun _=>.func (.func 171) #[] #[.pointer (some ⟨p,0,none⟩)]),(0,fun _=>.int .i64 o.d.id),(0,fun _=>.pointer (some ⟨o.p,0,none⟩)),(0,fun _=>.pointer (some ⟨o.p,0,none⟩)),(0,fun _=>.pointer (some ⟨o.p,0,none⟩)),(0,fun _=>.int .i64 o.d.hi),(0,fun _=>.pointer (some ⟨o.p,0,none⟩)),(0,fun _=>.pointer (some ⟨o.p,0,none⟩)),(0,fun _=>.pointer (some ⟨o.p,1,none⟩)),(0,fun _=>.slice o.a o.d.ks.length o.c),(0,fun _=>.int .i64 o.d.ks.length),(1,fun ms=>ms.getD 0 undef),(2,fun ms=>ms.getD 1 undef)] (SR Y0 o.d.id o.d.hi o.d.ks.length fun X=>C.VS p (numB nn++((os.map SL.d).take i).flatMap sesB++[o.d.id,o.d.hi,(o.d.ks.length:Int)].flatMap numB) (1+cntS ((os.map SL.d).take i)+3) X∧P.Fr p Y0 X) (fun _ _=>False) [11,12] rfl (by kernel_rfl) (by kernel_rfl) (by kernel_rfl) (by decide) (by decide) HY0.out.symm ?_ ?_ ?_
   ·simp only [StepsV,List.nil_append,List.cons_append,Nat.zero_add,Nat.reduceAdd]
    refine ⟨?p0,?p1,?p2,?p3,?p4,?l5,?p6,?p7,?p8,?l9,?p10,?b11,?c12,trivial⟩
    case p0 =>
     intro ms X g1 g2 hx
     refine mM ?_
     generalize hR:(fun v w'=>(_→v=_)∧_)=RR
     have HR:=hid hR
     have HXX:=hid hx
     clear hR g1 g2 hx
     try refine mV ?_
     go_wp2_with fail
     have hR:=HR.out
     subst hR
     exact ⟨rfl,fun _=>rfl,HXX.out⟩
    case p1 =>
     intro ms X g1 g2 hx
     refine mM ?_
     generalize hR:(fun v w'=>(_→v=_)∧_)=RR
     have HR:=hid hR
     have HXX:=hid hx
     clear hR g1 g2 hx
     try refine mV ?_
     go_wp2_with fail
     have hR:=HR.out
     subst hR
     exact ⟨rfl,fun _=>rfl,HXX.out⟩
    case p2 =>
     intro ms X g1 g2 hx
     refine mM ?_
     generalize hR:(fun v w'=>(_→v=_)∧_)=RR
     have HR:=hid hR
     have HXX:=hid hx
     clear hR g1 g2 hx
     try refine mV ?_
     go_wp2_with fail
     have hR:=HR.out
     subst hR
     exact ⟨rfl,fun _=>rfl,HXX.out⟩
    case p3 =>
     intro ms X g1 g2 hx
     refine mM ?_
     generalize hR:(fun v w'=>(_→v=_)∧_)=RR
     have HR:=hid hR
     have HXX:=hid hx
     clear hR g1 g2 hx
     try refine mV ?_
     go_wp2_with fail
     have hR:=HR.out
     subst hR
     exact ⟨rfl,fun _=>rfl,HXX.out⟩
    case p4 =>
     intro ms X g1 g2 hx
     refine mM ?_
     generalize hR:(fun v w'=>(_→v=_)∧_)=RR
     have HR:=hid hR
     have HXX:=hid hx
     clear hR g1 g2 hx
     try refine mV ?_
     go_wp2_with fail
     have hR:=HR.out
     subst hR
     exact ⟨rfl,fun _=>rfl,HXX.out⟩
    case l5 =>
     intro ms X g1 g2 hx
     obtain rfl:=List.length_eq_zero_iff.1 (Nat.le_zero.1 (Nat.le_trans g2 (by decide +kernel)))
     have hx0:X=Y0:=hx
     subst hx0
     have k0:=HY1.out.1
     have k1:=HY1.out.2
     refine mM ?_
     generalize hR:(fun v w'=>(_→v=_)∧_)=RR
     have HR:=hid hR
     have HXX:=hid hx
     clear hR g1 g2 hx
     try refine mV ?_
     go_wp2_with fail
     have hR:=HR.out
     subst hR
     exact ⟨rfl,fun _=>rfl,HXX.out⟩
    case p6 =>
     intro ms X g1 g2 hx
     refine mM ?_
     generalize hR:(fun v w'=>(_→v=_)∧_)=RR
     have HR:=hid hR
     have HXX:=hid hx
     clear hR g1 g2 hx
     try refine mV ?_
     go_wp2_with fail
     have hR:=HR.out
     subst hR
     exact ⟨rfl,fun _=>rfl,HXX.out⟩
    case p7 =>
     intro ms X g1 g2 hx
     refine mM ?_
     generalize hR:(fun v w'=>(_→v=_)∧_)=RR
     have HR:=hid hR
     have HXX:=hid hx
     clear hR g1 g2 hx
     try refine mV ?_
     go_wp2_with fail
     have hR:=HR.out
     subst hR
     exact ⟨rfl,fun _=>rfl,HXX.out⟩
    case p8 =>
     intro ms X g1 g2 hx
     refine mM ?_
     generalize hR:(fun v w'=>(_→v=_)∧_)=RR
     have HR:=hid hR
     have HXX:=hid hx
     clear hR g1 g2 hx
     try refine mV ?_
     go_wp2_with fail
     have hR:=HR.out
     subst hR
     exact ⟨rfl,fun _=>rfl,HXX.out⟩
    case l9 =>
     intro ms X g1 g2 hx
     obtain rfl:=List.length_eq_zero_iff.1 (Nat.le_zero.1 (Nat.le_trans g2 (by decide +kernel)))
     have hx0:X=Y0:=hx
     subst hx0
     have k0:=HY1.out.1
     have k1:=HY1.out.2
     refine mM ?_
     generalize hR:(fun v w'=>(_→v=_)∧_)=RR
     have HR:=hid hR
     have HXX:=hid hx
     clear hR g1 g2 hx
     try refine mV ?_
     go_wp2_with fail
     have hR:=HR.out
     subst hR
     exact ⟨rfl,fun _=>rfl,HXX.out⟩
    case p10 =>
     intro ms X g1 g2 hx
     refine mM ?_
     generalize hR:(fun v w'=>(_→v=_)∧_)=RR
     have HR:=hid hR
     have HXX:=hid hx
     clear hR g1 g2 hx
     try refine mV ?_
     go_wp2_with fail
     have hR:=HR.out
     subst hR
     exact ⟨rfl,fun _=>rfl,HXX.out⟩
    case b11 =>
     intro ms X g1 g2 hx
     have hlk:ms.length=0:=Nat.le_zero.1 (Nat.le_trans g2 (by decide +kernel))
     obtain rfl:=List.length_eq_zero_iff.1 hlk
     have hx0:X=Y0:=hx
     subst hx0
     refine mM ?_
     generalize hR:(fun v w'=>(_→v=_)∧_)=RR
     have HR2:=hid hR
     clear hR g1 g2 hlk hx
     refine mV ?_
     go_wp2_with fail
     have hR:=HR2.out
     subst hR
     exact ⟨rfl,fun _=>rfl,rfl,rfl⟩
    case c12 =>
     intro ms X g1 g2 hx
     have hl:ms.length=1:=Nat.le_antisymm (Nat.le_trans g2 (by decide +kernel)) (Nat.le_trans (by decide +kernel) g1)
     obtain ⟨v0,rfl⟩:=P.ls1 hl
     obtain ⟨rfl,rfl⟩:=hx
     have hcall:=sNum_any (HVY.out.below (by exact below_auto)) Y0.heap.size 3 3 [o.d.id,o.d.hi,(o.d.ks.length:Int)] rfl (heap_alloc_new Y0 _) HNUM.out (by have:=HCN.out;omega)
     refine mM ?_
     generalize hR:(fun v w'=>(_→v=_)∧_)=RR
     have HR:=hid hR
     clear hR g1 g2 hl
     refine mV ?_
     have HC:=hid (hcall)
     go_wp2_with fail
     refine HC.out.mono ?_
     rintro e X2 ⟨rfl,V2,F2⟩
     have HE:Hid ((SR Y0 o.d.id o.d.hi o.d.ks.length fun X=>C.VS p (numB nn++((os.map SL.d).take i).flatMap sesB++[o.d.id,o.d.hi,(o.d.ks.length:Int)].flatMap numB) (1+cntS ((os.map SL.d).take i)+3) X∧P.Fr p Y0 X) [.slice (some ⟨Y0.heap.size,0,none⟩) 3 3,.tuple #[]] X2):=hid (⟨rfl,V2,((P.Fr.refl p Y0).alloc _).trans F2⟩)
     clear HC
     go_wp2_with fail
     have hR:=HR.out
     subst hR
     exact ⟨rfl,fun _=>rfl,HE.out⟩
   ·intro ms X hl hx
    obtain ⟨v0,v1,rfl⟩:=P.ls2 hl
    obtain ⟨rfl,V2,F2⟩:=hx
    refine mV ?_
    have HVX:=hid V2
    have HFX:=hid (HFY.out.trans F2)
    have Fw:=HF3.out.trans (HF.out.trans HFX.out)
    have S:=HC.out X (HBW.out X Fw)
    have ⟨x1,x2,_⟩:=ses_of S HI.out (find_at HUP.out HOM.out)
    obtain ⟨y0,y1,_⟩:=box2 x1
    have HX2:=hid x2
    clear hl V2 F2 S x1 x2 HY0 HY1 HVY HFY Fw
    obtain ⟨kk,hkk⟩:∃ n,n=o.d.ks.length:=⟨_,rfl⟩
    have HKK:=hid hkk
    rw [←hkk] at y1
    clear hkk
    go_upto_region 10 with fail
    clear y0 y1
    go_loopw [52] (fun t52 wj=>∃ j:Nat,t52=.int .i64 (j:Nat)∧j≤kk∧Hid (C.VS p (numB nn++((os.map SL.d).take i).flatMap sesB++[o.d.id,o.d.hi,(o.d.ks.length:Int)].flatMap numB++(o.d.ks.take j).flatMap itS) (1+cntS ((os.map SL.d).take i)+3+3 * j) wj)∧Hid (P.Fr p X wj)) (fun t52 _=>kk-(intOf t52).toNat)
    case atStart=>exact ⟨0,rfl,Nat.zero_le _,hid (by simpa using HVX.out),hid (P.Fr.refl _ _)⟩
    case round =>
     obtain ⟨j,rfl,hj,HV4,HF4⟩:=hrel
     by_cases hjt:j<kk
     ·have hjt':(j:Int)<(kk:Int):=by omega
      have hj':j<o.d.ks.length:=by rw [←HKK.out];exact hjt
      obtain ⟨x,hx⟩:∃ x,o.d.ks[j]? = some x:=⟨_,List.getElem?_eq_getElem hj'⟩
      have Fx:=HF3.out.trans (HF.out.trans (HFX.out.trans HF4.out))
      have x2:=(HC.out wr (HBW.out wr Fx)).row o HOM.out
      have HX:=hid hx
      obtain ⟨gk,hga,hgl,z0,z1,z2⟩:=own_item x2.1 hx
      have hxb:=HI.out.one _ (List.mem_map_of_mem HOM.out)
      have hxc:=hxb.2.2.2 x (List.mem_of_getElem? hx)
      have hxh:=hxb.2.1
      have hnum:∀ y∈[x.seq,x.code,x.num],NumD y:=fun y hy=>by
       simp only [List.mem_cons,List.not_mem_nil,or_false] at hy
       rcases hy with rfl|rfl|rfl <;> exact ⟨by omega,by omega⟩
      have HNX:=hid hnum
      clear x2 hxb hxc hxh hnum Fx hx
      rw [hga]
      go_upto_region 12 with fail
      generalize hW5:World.alloc wr _=w5
      have hb5:Below wr.heap.size wr w5:=by rw [←hW5];exact below_auto
      have q5:w5.heap[wr.heap.size]? = some (.cells #[.int .i64 x.seq,.int .i64 x.code,.int .i64 x.num] 262 (0,0)):=by rw [←hW5];exact heap_alloc_new wr _
      obtain ⟨BX,hBX⟩:∃ b,b=wr.heap.size:=⟨_,rfl⟩
      rw [←hBX] at q5 ⊢
      have HV5:=hid (HV4.out.below hb5)
      have HF5:=hid (HF4.out.trans (fr_below hb5))
      have i0:=cell_row q5 0
      have i1:=cell_row q5 1
      have i2:=cell_row q5 2
      simp at i0 i1 i2
      have hB5:=(Array.getElem?_eq_some_iff.1 q5).1
      clear hW5 hb5 hBX z0 z1 z2 hgl q5
      go_wp2_with fail
      refine (sNum_any (HV5.out.below (by exact below_auto)) w5.heap.size 3 3 [x.seq,x.code,x.num] rfl (heap_alloc_new w5 _) HNX.out (by have:=HCN.out;have:=HKL.out;have:=HKK.out;omega)).mono ?_
      rintro e w6 ⟨rfl,V6,F6⟩
      have HV6:=hid V6
      have HF6:=hid (HF5.out.trans (((P.Fr.refl p w5).alloc _).trans F6))
      clear V6 F6 i0 i1 i2
      go_wp2_with fail
      go_roundw
      case rel =>
       refine ⟨j+1,by go_num,by omega,hid ?_,hid HF6.out⟩
       have e:o.d.ks.take (j+1)=o.d.ks.take j++[x]:=by rw [List.take_add_one];simp [HX.out]
       have hv:=HV6.out
       rw [e,List.flatMap_append,←List.append_assoc]
       have e2:[x].flatMap itS=[x.seq,x.code,x.num].flatMap numB:=by simp [itS]
       rw [e2]
       exact hv
      case measure=>simp [intOf];omega
     ·obtain rfl:j=kk:=by omega
      go_wp2_with fail
      go_roundw
      case rel =>
       refine ⟨i+1,by go_num,by omega,hid ?_,hid (HF.out.trans (HFX.out.trans HF4.out))⟩
       have e:(os.map SL.d).take (i+1)=(os.map SL.d).take i++[o.d]:=by rw [List.take_add_one];simp [HO.out]
       have hv:=HV4.out
       have ek:o.d.ks.take o.d.ks.length=o.d.ks:=List.take_length
       rw [HKK.out,ek] at hv
       rw [e,List.flatMap_append,cntS_snoc]
       have e2:numB nn++(((os.map SL.d).take i).flatMap sesB++[o.d].flatMap sesB)=numB nn++((os.map SL.d).take i).flatMap sesB++[o.d.id,o.d.hi,(o.d.ks.length:Int)].flatMap numB++o.d.ks.flatMap itS:=by simp [sesB]
       have e3:1+(cntS ((os.map SL.d).take i)+(3+3 * o.d.ks.length))=1+cntS ((os.map SL.d).take i)+3+3 * o.d.ks.length:=by omega
       rw [e2,e3]
       exact hv
      case measure=>simp [intOf];omega
   ·exact fun _ _ _ _ h=>h.elim
  ·obtain rfl:i=nn:=by omega
   have hge2:¬(i:Int)<(i:Int):=by omega
   obtain ⟨vs,⟨av,cv,hbox,hrow⟩,hpk,hlen,hok,hlie⟩:=HV.out
   have ht:(os.map SL.d).length=i:=by rw [List.length_map];exact HN.out.symm
   have hall:packB vs=tabS (os.map SL.d):=by
    rw [hpk,List.take_of_length_le (by omega)]
    unfold tabS
    rw [ht]
   have hcl:=cntS_le (t:=(os.map SL.d).take i) fun s hs=>by
    obtain ⟨q,hq,rfl⟩:=List.mem_map.1 (List.mem_of_mem_take hs)
    exact HI.out.len (List.mem_map_of_mem hq)
   have hcl2:((os.map SL.d).take i).length≤i:=List.length_take_le _ _
   have c0:wr.cell? ⟨p,0,none⟩=some (.slice av vs.length cv):=by rw [cell_of_row wr _ _ _ _ (0,0) hbox];rfl
   have hp0:p<wr.heap.size:=(Array.getElem?_eq_some_iff.1 hbox).1
   have HPut:=hid (P.put_any av cv vs.length vs wr rfl (P.VBox.vat hrow rfl) hok hlie (by omega))
   have hbw:=HBW.out wr (HF3.out.trans HF.out)
   have HALL:=hid hall
   obtain ⟨vn,hvn⟩:∃ n,n=vs.length:=⟨_,rfl⟩
   rw [←hvn] at c0 HPut
   clear hpk hlen hok hlie hall hbox hrow hvn HV HF ht hcl hcl2
   go_wp2_with fail
   refine HPut.out.mono ?_
   rw [HALL.out]
   rintro e w12 ⟨a12,c12,rfl,hown12,hb12⟩
   have HR:Hid (SBRet (os.map SL.d) w (.returned (.slice a12 (tabS (os.map SL.d)).length c12)) w12):=hid ⟨a12,c12,rfl,K.own_le hown12 hbw.size,hbw.trans (hb12.mono hbw.size)⟩
   clear hown12 hb12
   generalize (tabS (os.map SL.d)).length=ln at *
   go_wp2_with fail
   exact bodyPost_ret (v:=.slice a12 ln c12) (by simp [results,Tryz.results94,go_sem]) rfl HR.out

end Go.Proofs.YtdeeoddacnealaaGreat.Z