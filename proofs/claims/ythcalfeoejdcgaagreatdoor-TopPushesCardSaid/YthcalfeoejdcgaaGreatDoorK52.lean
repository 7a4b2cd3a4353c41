import Derived.Test.YthcalfeoejdcgaaGreatDoorK46
import Derived.Test.YthcalfeoejdcgaaGreatDoorCards
import Derived.Test.YthcalfeoejdcgaaGreatDoorTie
import Derived.Test.YthcalfeoejdcgaaGreatDoorK51
import Derived.ProofKit
import Derived.OpenShut
import Derived.Deep.DeepHandedRow
import Derived.Deep.DeepWitnessRowRef
import Derived.Lib.LaidTab
namespace Go.Proofs.YthcalfeoejdcgaaGreatDoor
set_option linter.unusedSimpArgs false
set_option linter.unusedVariables false
set_option maxRecDepth 100000
set_option maxHeartbeats 20000000
section
open Go.RowKit Go.ChangeShapes Go.WideShapes Go.ChangeAt
namespace lawTopPushes
theorem contract (H:Type)(enc:TypeId × Value->H)(W:World)(base:Nat)(args:Array Value)(ds gs:List (DataW H))(before:List MemPlace)
 (hval0: ∀ (j:Nat) t v,Tryz.f4.params[j]?=some t->args[j]?=some v->Value.okWide Tryz.prog W .any base t v)
 (hW:DataW.Whole enc Tryz.prog Tryz.f4.params.toList Rows.topPushesSpec.vars false W args.toList ds gs before) (hL:laidMetH Tryz.prog Rows.topPushesRow.laid W):
 Calls Tryz.prog 4 args W fun e W'=> ∃ v,e= .returned v/\Rows.topPushesSpec.post enc Tryz.prog Tryz.f4 false true false false W args v W':=by
 have hT:Tbs W:=yzt hL
 have hval: ∀ (j:Nat) t v,Tryz.f4.params[j]?=some t->args[j]?=some v->Value.okWide Tryz.prog W .any base t v:=hval0
 have hW':=hW
 obtain ⟨p,q,hA0,hV,rfl,hfz,hnd⟩:=hW
 have hA:DataW.TrodAll enc Tryz.prog W 0 (fun _=>true) true Tryz.f4.params.toList args.toList ds p:=hA0
 rw [Tryz.params4] at hA hval
 obtain ⟨v0,vs0,d0,ds0,p0,q0,hargs,rfl,rfl,h0,r0⟩:=trodAll_cons hA
 obtain ⟨v1,vs1,d1,ds1,p1,q1,rfl,rfl,rfl,h1,r1⟩:=trodAll_cons r0
 obtain ⟨v2,vs2,d2,ds2,p2,q2,rfl,rfl,rfl,h2,r2⟩:=trodAll_cons r1
 obtain ⟨rfl,rfl,rfl⟩:=trodAll_nil r2
 obtain rfl:args= #[v0,v1,v2]:=by cases args;simp_all
 obtain ⟨rfl,rfl⟩:=trodVars_none hV
 obtain ⟨A0,n0,c0,rfl⟩:=okWide_slice Tryz.underlying22 (hval 0 22 v0 rfl rfl)
 obtain ⟨l0,hrow0,hle,hm⟩:=zo4 h0
 obtain ⟨A1,n1,c1,rfl⟩:=okWide_slice Tryz.underlying22 (hval 1 22 v1 rfl rfl)
 obtain ⟨l1,hrow1,hle1,hm1⟩:=zo4 h1
 obtain ⟨a1,rfl,rfl,rfl,w1⟩:=open_int Tryz.underlying3 (hval 2 3 v2 rfl rfl) h2
 clear hA0 hval0
 simp only [List.append_nil] at hW'
 have hm2:c0<=9223372036854775807:=by unfold maxLen at hm;omega
 have hm3:n1<=9223372036854775807:=by unfold maxLen at hm1;omega
 refine (ypf A0 n0 c0 l0 A1 n1 c1 l1 a1 W hrow0 hle qF hm2 hrow1 hm3 hT).mono fun e W' ⟨he,hb⟩=>?_
 subst he
 exact ⟨_,rfl,yj1 yon (by rw [Tryz.params4];simp only [List.mem_cons,List.not_mem_nil,or_false,forall_eq_or_imp,forall_eq];exact ⟨⟨by kernel_rfl,by decide+kernel⟩,⟨by kernel_rfl,by decide+kernel⟩,⟨by kernel_rfl,by decide+kernel⟩⟩) rfl rfl Tryz.underlying4 hW' rfl rfl rfl hb⟩
noncomputable def held (os:Os):World:=World.holding Tryz.prog os ⟨#[],#[],[]⟩
def fillCells (cs:Array Value):Obj->Obj
 | .cells _ t frozen=> .cells cs t frozen
 |o=>o
noncomputable def laidWorld (os:Os):World:=
 { held os with heap := ((((((held os).heap.modify 3 (fillCells #[.int .i64 31, .int .i64 28, .int .i64 31, .int .i64 30, .int .i64 31, .int .i64 30, .int .i64 31, .int .i64 31, .int .i64 30, .int .i64 31, .int .i64 30, .int .i64 31])).modify 4 (fillCells #[.slice (some ⟨(held os).heap.size, 0, none⟩) 8 8])).modify 0 (fillCells #[.slice (some ⟨(held os).heap.size + 1, 0, none⟩) 18 18])).modify 2 (fillCells usedc.toArray)).push (.cells wrds.toArray 9 (0, 0))).push (.cells syms.toArray 9 (0, 0)) }
theorem laid_met (os:Os):laidMet Tryz.prog Rows.topPushesRow.laid ((laidWorld os).forCall (fun _ _=>0) ⟨#[],#[.slice none 0 0, .slice none 0 0, .int .i64 0],[]⟩).memory:=
 laidMet_of_run' 8 qG qG
theorem reads (os:Os){H:Type}(enc:TypeId × Value->H): ∃ places,DataW.whole enc Tryz.prog ((laidWorld os).forCall (fun _ _=>0) ⟨#[],#[.slice none 0 0, .slice none 0 0, .int .i64 0],[]⟩).memory Tryz.f4.params.toList Rows.topPushesSpec.vars false #[Value.slice none 0 0,Value.slice none 0 0,Value.int .i64 0].toList 8=some ([.nil, .nil, .lit (.int .i64 0)],[],places):=
 ⟨[],by kernel_rfl⟩
theorem lifted (os:Os)(started:os.Started)(H:Type)(enc:TypeId × Value->H)(F:Stop.Interp):
 ReturnsInHanded {} Tryz.checked os 4 .any ((OpenSpec.ofChange Rows.topPushesSpec).preRow enc Tryz.prog Tryz.f4 Rows.topPushesRow.domain false Rows.topPushesRow.laid) (((OpenSpec.ofChange Rows.topPushesSpec).at F).post enc Tryz.prog Tryz.f4 false true false false):=by
 obtain ⟨places,hx⟩:=reads os enc
 refine returnsInHanded_of_row (C:=Tryz.checked) (s:=OpenSpec.ofChange Rows.topPushesSpec) own started qG Tryz.func4
  (witness_row_atRef (enc:=enc) (C:=Tryz.checked) false (laidWorld os) #[.slice none 0 0, .slice none 0 0, .int .i64 0] rfl qG qG qG
   (OpenSpec.preRow_of_cond 8 hx qG (fun k hk=>by cases hk) qG (laid_met os))) ?_
 intro W base args ds gs before hval hW _ _ _ hL _ _
 exact contract H enc W base args ds gs before hval hW hL
theorem said :Rows.TopPushesSaid:=
 OpenClaim.holds_of_cond 4 Tryz.f4 rfl rfl rfl rfl rfl rfl rfl ⟨rfl,rfl,rfl,rfl,rfl⟩ rfl rfl rfl rfl rfl yfs Tryz.func4 yeb yfr yft
  (fun os started H enc _ F=>by rw [OpenClaim.pre_eq_preRow];exact lifted os started H enc F)
theorem plain (f : FuncId)(fn : Func)(hf : Tryz.pinned.checked.prog.funcNamed "warehouse/warehousetop.TopPushes" = some f)(hfn : Tryz.pinned.checked.prog.funcs[f]? = some fn) :
 false=Tryz.pinned.checked.prog.looks []/\ ∀ (j:Nat) t,fn.params[j]?=some t->Tryz.pinned.checked.prog.wantsStandIn t=false:=by
 obtain rfl : f = 4 := Option.some.inj ((show Tryz.prog.funcNamed "warehouse/warehousetop.TopPushes" = some 4 by kernel_rfl).symm.trans hf) |>.symm
 obtain rfl:fn=Tryz.f4:=(Option.some.inj (Tryz.func4.symm.trans hfn)).symm
 refine ⟨by kernel_rfl,fun j t ht=>?_⟩
 rw [Tryz.params4] at ht
 have hm:=Array.mem_of_getElem? ht
 simp at hm
 exact zqf t (by rcases hm with rfl|rfl|rfl<;>simp)
end lawTopPushes
end
section
open Go.RowKit Go.ChangeShapes Go.WideShapes Go.ChangeAt
namespace lawTopPushes
theorem kw :Rows.topPushesRow.wfByText (OpenSpec.ofChange Rows.topPushesSpec)=true:=by kernel_rfl
theorem km :Tryz.pinned.checked.prog.mainIs=some (Rows.topPushesCard.stood.harness.1,Rows.topPushesCard.stood.harness.2.toList):=by kernel_rfl
theorem kg :false=Rows.topPushesRow.goesBy Tryz.pinned.checked.prog:=by kernel_rfl
theorem card :Rows.TopPushesCardSaid:=
 Claim7.holds_tied_plain_at .later [] _ _ Rows.topPushesCard.stood.harness _ said (fun _ h=>by cases h) kw (fun _ h=>by cases h) topPushes_row_tie rfl ⟨rfl,rfl⟩ km rfl plain kg
end lawTopPushes
end
end Go.Proofs.YthcalfeoejdcgaaGreatDoor
